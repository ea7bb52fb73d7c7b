/- Package kura: what a form holds. Conditions: none. -/
import Derived.Test.YtmcloipjlihhlaaNKuraF
set_option linter.unusedSimpArgs false
set_option linter.unusedVariables false
namespace Go.Proofs.Ytmcloipjlihhlaa.N
open Go.X Go.Proofs.Ytmcloipjlihhlaa
set_option maxRecDepth 100000

theorem wayL_succ (es : Es) (outs : List (List Int)) (h n : Nat) : wayL es outs h (n + 1) = wayL es outs h n ++ [((itH es outs h (n + 1) : Nat) : Int)] := by
  unfold wayL
  rw [List.range_succ, List.map_append]; rfl
theorem wayL_len (es : Es) (outs : List (List Int)) (h n : Nat) : (wayL es outs h n).length = n + 1 := by simp [wayL]
section
variable {g : Int} {es : Es} {sel : List Int}
theorem folF_way (m : MayN g es) (c : ChosenK (es.length : Int) sel) {h : Nat} (hh : InH es sel h) (h0 : (outF es sel (fromH es h)).length ≠ 2) :
    ∃ j, j ≤ 2 * es.length ∧ (∀ i, i < j → ¬ stopH es (outsF g es sel) (itH es (outsF g es sel) h i)) ∧ stopH es (outsF g es sel) (itH es (outsF g es sel) h j) ∧ folF es (outsF g es sel) h = wayL es (outsF g es sel) h j := by
  obtain ⟨j, h1, h2, h3⟩ := ends_way m c hh h0
  refine ⟨j, h1, h2, h3, ?_⟩
  unfold folF wayL
  rw [fol_eq es _ _ j h h1 h2 h3, List.map_map]; rfl
theorem okFollow {k : Int} {br : List Int} {paths : List (List Int)} {R : Int → List (List Int) → Int → Prop} (m : MayN g es) (c : ChosenK (es.length : Int) sel) {h : Nat} (hh : InH es sel h) (h0 : (outF es sel (fromH es h)).length ≠ 2) (pl : paths.length ≤ 1000000)
    (z : R g (paths ++ [folF es (outsF g es sel) h]) k) : Ok208 g es (outsF g es sel) br paths k h R := by
  obtain ⟨J, h1, h2, h3, h4⟩ := folF_way m c hh h0
  have hm := m.m
  have g1 := m.g1
  apply ok208
  unfold T208
  refine okToF hh.1 (by omega) ?_
  refine ⟨fun a p v => ∃ j : Nat, a = ((itH es (outsF g es sel) h j : Nat) : Int) ∧ p = wayL es (outsF g es sel) h j ∧ v = toH es (itH es (outsF g es sel) h j) ∧ j ≤ J, fun _ p _ => 2 * es.length + 2 - p.length, ⟨0, rfl, rfl, rfl, Nat.zero_le _⟩, ?_⟩
  rintro _ _ _ ⟨j, rfl, rfl, rfl, hj⟩
  have ij := itH_in m c hh j fun i hi => h2 i (by omega)
  have tj := toH_in m ij.1
  refine ⟨tj.1, by rw [outsF_len]; omega, fun l hx => ?_⟩
  have el := outsF_get (es := es) (sel := sel) tj.1 tj.2
  rw [hx] at el
  obtain rfl := Option.some.inj el
  have es' : stopH es (outsF g es sel) (itH es (outsF g es sel) h j) ↔ (outF es sel (toH es (itH es (outsF g es sel) h j))).length ≠ 2 := by
    unfold stopH; rw [outsAt m c ij]
  by_cases q : j = J
  · subst q
    have := es'.1 h3
    refine cnd_eq (fun q => by omega) fun _ => ⟨by omega, by rw [← h4]; exact z⟩
  · have ns := h2 j (by omega)
    have hl2 : (outF es sel (toH es (itH es (outsF g es sel) h j))).length = 2 := by
      rw [es'] at ns; exact Decidable.not_not.1 ns
    obtain ⟨a1, a2, a3, a4⟩ := two_ways m c ij ns
    have wl := wayL_len es (outsF g es sel) h j
    refine cnd_eq (fun _ => ⟨by omega, by omega, fun x hx3 => ⟨fun y => y = ((nxt es (outsF g es sel) (itH es (outsF g es sel) h j) : Nat) : Int), ?_, ?_⟩⟩) fun q => by omega
    · have im := ij.1
      rw [kxor (by omega)]
      rcases a4 with a4 | a4 <;> rw [a4] at hx3 ⊢
      · obtain rfl : _ = x := Option.some.inj hx3
        exact cnd_eq (fun _ => ⟨by omega, by simp, fun y hy => (Option.some.inj hy).symm⟩) fun q => absurd rfl q
      · obtain rfl : _ = x := Option.some.inj hx3
        exact cnd_eq (fun q => absurd q a3) fun _ => rfl
    · rintro _ rfl
      refine ⟨by omega, okToF a1.1 (by omega) ⟨⟨j + 1, rfl, (wayL_succ _ _ _ _).symm, rfl, by omega⟩, ?_⟩⟩
      dsimp only
      rw [List.length_append, wl, List.length_singleton]; omega
/-- A way is a list of half-edges. -/
theorem folF_ok (m : MayN g es) (c : ChosenK (es.length : Int) sel) {h : Nat} (hh : InH es sel h) (h0 : (outF es sel (fromH es h)).length ≠ 2) : HIn es (folF es (outsF g es sel) h) ∧ (folF es (outsF g es sel) h).length ≤ 2 * es.length + 1 := by
  obtain ⟨j, h1, h2, h3, h4⟩ := folF_way m c hh h0
  rw [h4, wayL_len]
  refine ⟨⟨?_, fun x hx => ?_⟩, by omega⟩
  · intro e
    have := wayL_len es (outsF g es sel) h j
    rw [e] at this; simp at this
  · unfold wayL at hx
    obtain ⟨i, hi, rfl⟩ := List.mem_map.1 hx
    have := List.mem_range.1 hi
    exact ⟨_, rfl, (itH_in m c hh i fun a ha => h2 a (by omega)).1⟩
end

def preP (b : List Int) (n : Nat) : List (Int × Int) := (List.range n).flatMap fun i => (b.drop (i + 1)).map fun v => (b.getD i 0, v)
theorem preP_succ (b : List Int) (n : Nat) : preP b (n + 1) = preP b n ++ (b.drop (n + 1)).map fun v => (b.getD n 0, v) := by simp [preP, List.range_succ, List.flatMap_append]
theorem preP_mem {b : List Int} {n : Nat} {q : Int × Int} (h : q ∈ preP b n) : ∃ i, i < n ∧ q.1 = b.getD i 0 ∧ q.2 ∈ b.drop (i + 1) := by
  unfold preP at h
  obtain ⟨i, hi, h⟩ := List.mem_flatMap.1 h
  obtain ⟨v, hv, rfl⟩ := List.mem_map.1 h
  exact ⟨i, List.mem_range.1 hi, rfl, hv⟩
theorem preP_nodup {b : List Int} (nd : b.Nodup) : ∀ n, n ≤ b.length → (preP b n).Nodup
  | 0, _ => by simp [preP]
  | n + 1, hn => by
    rw [preP_succ]
    refine List.nodup_append.2 ⟨preP_nodup nd n (by omega), ?_, fun x hx y hy e => ?_⟩
    · exact List.Pairwise.map _ (fun a b hab e => hab (Prod.mk.inj e).2) (nd.sublist (List.drop_sublist _ _))
    · subst e
      obtain ⟨i, hi, e1, _⟩ := preP_mem hx
      obtain ⟨v, _, rfl⟩ := List.mem_map.1 hy
      have a1 := List.getElem?_eq_getElem (show i < b.length by omega)
      have a2 := List.getElem?_eq_getElem (show n < b.length by omega)
      dsimp only at e1
      rw [getD_of' a1, getD_of' a2] at e1
      exact List.pairwise_iff_getElem.1 nd i n (by omega) (by omega) hi e1.symm
theorem okFive {g k : Int} {es : Es} {outs paths : List (List Int)} {b : List Int} {R : Int → List (List Int) → Int → Prop} (hl : es.length ≤ 1000000) (hn : paths.length ≤ 1000000) (hp : ∀ p ∈ paths, HIn es p ∧ p.length ≤ 1000000)
    (nd : b.Nodup) (hb : b.length ≤ 1000) (bad : (∃ q ∈ preP b b.length, betw es paths q.1 q.2 = none) → R g paths k) (good : ∀ ix, ix.length = (preP b b.length).length → Sel es paths (preP b b.length) ix → R g (ix.map fun i => paths.getD i []) 5) :
    Ok209 g es outs b paths k R := by
  have lenP : ∀ n, (preP b n).length ≤ n * b.length := by
    intro n
    induction n with
    | zero => simp [preP]
    | succ n ih =>
      rw [preP_succ, List.length_append, List.length_map, List.length_drop, Nat.add_mul]; omega
  apply ok209
  unfold T209
  refine ⟨fun q x => ∃ n : Nat, x = n ∧ n ≤ b.length ∧ q = preP b n, fun _ x => ((b.length : Int) - x).toNat, ⟨0, rfl, Nat.zero_le _, rfl⟩, ?_⟩
  rintro _ _ ⟨n, rfl, hn2, rfl⟩
  refine cnd_dec (fun hlt => ⟨by omega, hlt, fun u hu => ?_⟩) fun hlt => ?_
  · rw [Int.toNat_natCast] at hu
    rw [wr (x := (n : Int) + 1) (by omega) (by omega)]
    rw [show Int.toNat ((n : Int) + 1) = n + 1 by omega]
    have eu := getD_of' hu
    refine ⟨by omega, by omega, fun q x => ∃ c : Nat, x = c ∧ c ≤ b.length - (n + 1) ∧ q = preP b n ++ ((b.drop (n + 1)).take c).map fun v => (u, v), fun _ x => ((b.length : Int) - x).toNat, ⟨0, rfl, Nat.zero_le _, by simp⟩, ?_⟩
    rintro _ _ ⟨c, rfl, hc, rfl⟩
    have lp := lenP n
    have : n * b.length ≤ 1000 * 1000 := Nat.mul_le_mul (by omega) hb
    refine cnd_dec (fun hlt2 => ⟨by omega, hlt2, fun v hv => ⟨?_, ?_⟩⟩) fun hlt2 => ?_
    · rw [List.length_append, List.length_map, List.length_take, List.length_drop]; omega
    · rw [Int.toNat_natCast] at hv
      rw [wr (by omega) (by omega)]
      refine ⟨⟨c + 1, by simp, by omega, ?_⟩, by dsimp only; omega⟩
      rw [List.take_add_one, hv, List.append_assoc]
      simp
    · have hce : c = b.length - (n + 1) := by omega
      subst hce
      refine ⟨⟨n + 1, by simp, by omega, ?_⟩, by dsimp only; omega⟩
      rw [preP_succ, List.take_of_length_le (by simp), eu]
  · have hne : n = b.length := by omega
    subst hne
    have lp := lenP b.length
    have : b.length * b.length ≤ 1000 * 1000 := Nat.mul_le_mul hb hb
    exact okSettle hl hn hp (preP_nodup nd _ (Nat.le_refl _)) (by omega) bad good
end Go.Proofs.Ytmcloipjlihhlaa.N
