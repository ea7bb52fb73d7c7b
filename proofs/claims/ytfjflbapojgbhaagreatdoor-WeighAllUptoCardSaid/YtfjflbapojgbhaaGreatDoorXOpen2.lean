/- What a row tells of slices and structs that come in, as views. Conditions: none. -/
import Derived.Test.YtfjflbapojgbhaaGreatDoorYMore
import Derived.Test.YtfjflbapojgbhaaGreatDoorXPost
import Derived.Below
import Derived.Deep.Slices
import Derived.ChangeOld
import Derived.Carry
namespace Go.X
open Go.ChangeShapes Go.WideShapes Go.ChangeAt Go.RowKit Go.Deep

theorem calls_below {P : Program} {f : FuncId} {args : Array Value} {v : Value} {W : World} (c : CallsH P f args W.heap fun v' h' => Fr [] W.heap h' ∧ v' = v) :
    Calls P f args W fun e w' => e = .returned v ∧ Below W.heap.size W w' :=
  (c W rfl).mono fun e w' ⟨u, h1, h2, h3, h4⟩ => ⟨by rw [h1, h4], ⟨h2.os, h2.tape, h2.output, h3.size, fun k hk => h3.blk k hk (by simp)⟩⟩
theorem spot_of {P : Program} {w : World} {r : Reach} {base : Nat} {t e : TypeId} {a : Addr} {len cap : Nat} (ht : P.underlying t = some (.slice e)) (h : Cell.okWide P w r base t (.slice (some a) len cap)) : a.spot = none := by
  simp only [Cell.okWide, ht, Cell.ok] at h
  exact h.2.2.2.1
theorem spot_wide {P : Program} {w : World} {r : Reach} {base : Nat} {t e : TypeId} {a : Addr} {len cap : Nat} (ht : P.underlying t = some (.slice e)) (h : Value.okWide P w r base t (.slice (some a) len cap)) : a.spot = none := by
  simp only [Value.okWide, ht] at h
  exact spot_of ht h
section
variable {H : Type} {enc : TypeId × Value → H} {P : Program} {W : World} {base : Nat}

theorem vw_open {α : Type} [Inhabited α] (E : En α) {t e : TypeId} {a : Option Addr} {len cap : Nat} {d : DataW H} {p : List MemPlace} (ht : P.underlying t = some (.slice e)) (hc : P.cellsOf e = E.sz)
    (hs : ∀ x, a = some x → x.spot = none)
    (hel : ∀ (n : Nat) (cs : List Value) (y : DataW H × List MemPlace), DataW.trod enc P W base (fun _ => true) true n e cs = some y → ∃ x : α, cs = E.enc x)
    (h : DataW.Trod enc P W base (fun _ => true) true t (.slice a len cap) d p) : ∃ xs : List α, (Ck.vw E a len cap xs).ok W.heap ∧ (xs.length = 0 ∨ ∃ el sp, d = .slice el sp ∧ el.length = xs.length) := by
  obtain ⟨fuel, hf⟩ := h
  have hcs0 : (Value.slice a len cap).cells.toList = [.slice a len cap] := rfl
  rw [hcs0] at hf
  rcases open_slice ht hf with ⟨hcs, _⟩ | ⟨x, l, c, m, n, D, Pl, hcs, _, hl, hm, hmm, hd, hx⟩
  · simp at hcs
    obtain ⟨rfl, rfl, rfl⟩ := hcs
    exact ⟨[], ⟨⟨by simp [En.l], .inl ⟨rfl, rfl⟩⟩, rfl, Nat.le_refl _, fun _ => rfl⟩, .inl rfl⟩
  · simp at hcs
    obtain ⟨rfl, rfl, rfl⟩ := hcs
    simp only [if_true] at hmm
    subst hmm
    have hsp := hs x rfl
    obtain ⟨b, o, sp⟩ := x
    simp only at hsp
    subst hsp
    obtain ⟨V, hV⟩ := choose_lt (α := α) (p := fun i v => W.cells? base ((⟨b, o, none⟩ : Addr).add (i * P.cellsOf e)) (P.cellsOf e) = some (E.enc v)) (fun i hi => by
      obtain ⟨cs', h1, h2⟩ := hx i hi
      obtain ⟨v, rfl⟩ := hel _ _ _ h2
      exact ⟨v, h1⟩)
    refine ⟨(List.range len).map V, ⟨⟨by rw [En.l_len]; simp, .inr ⟨b, o, rfl, fun j v hj => ?_⟩⟩, by simp, hl, fun q => by cases q⟩, .inr ⟨_, _, congrArg Prod.fst hd, by simp⟩⟩
    have hjl : j < len * E.sz := by
      have := (List.getElem?_eq_some_iff.1 hj).1
      rw [En.l_len] at this; simpa using this
    have hi : j / E.sz < len := Nat.div_lt_of_lt_mul (by rw [Nat.mul_comm]; exact hjl)
    have ht2 : j % E.sz < E.sz := Nat.mod_lt _ E.pos
    have ej : j / E.sz * E.sz + j % E.sz = j := Nat.div_add_mod' j E.sz
    have g1 : ((List.range len).map V)[j / E.sz]? = some (V (j / E.sz)) := by simp [hi]
    have hlen : j % E.sz < (E.enc (V (j / E.sz))).length := by rw [E.len]; exact ht2
    have g2 := En.l_get g1 (List.getElem?_eq_getElem hlen)
    rw [ej, hj] at g2
    obtain rfl := Option.some.inj g2
    have g3 := (World.cells?_some (hV (j / E.sz) (by omega))).2.2 (j % E.sz) (by rw [hc]; exact ht2)
    rw [Go.Deep.add_add, hc, ej, List.getElem?_eq_getElem hlen] at g3
    rw [← g3]
    rw [show (⟨b, o, none⟩ : Addr).add j = ⟨b, o + j, none⟩ from add_none _ _ _, cell_hcell]
end
theorem owns_nil {cs : List Ck} (h : owns cs = []) {k : Nat} {d : Ck} (hd : cs[k]? = some d) : ∀ b, b ∉ d.own := fun b hb => by
  have : b ∈ owns cs := List.mem_flatMap.2 ⟨d, List.mem_of_getElem? hd, hb⟩
  rw [h] at this; simp at this
/-- A further view. -/
theorem Hp.vw {h : Heap} {c : Ck} {cs : List Ck} (hc : c.ok h) (ho : c.own = []) (H : Hp h cs) (hn : owns cs = []) : Hp h (c :: cs) :=
  Hp.view hc ho H fun _ _ hd b hb => absurd hb (owns_nil hn hd b)
end Go.X
