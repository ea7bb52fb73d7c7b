/- The document's graph: what its functions make of its fields. Conditions: none. -/
import Derived.Test.YtmcloipjlihhlaaTRef4
import Derived.Test.YtmcloipjlihhlaaNGrC
import Derived.Test.YtmcloipjlihhlaaTPlays
set_option linter.unusedSimpArgs false
namespace Go.Proofs.Ytmcloipjlihhlaa.N
open Go.Proofs.Ytmcloipjlihhlaa
open Go.X
section
variable {s : RS} {l u v e en : Int}
/-- Of a size that fits. -/
def fits (s : RS) (k : Nat) : Prop := s.ns.length ≤ k ∧ s.es.length ≤ k
theorem find_at {α : Type} {p : α → Bool} {l : List α} {k : Nat} {x : α} (h : l[k]? = some x) (hp : p x = true) (hno : ∀ (j : Nat) (y : α), j < k → l[j]? = some y → p y = false) : l.findIdx? p = some k := by
  obtain ⟨hk, rfl⟩ := List.getElem?_eq_some_iff.1 h
  rw [List.findIdx?_eq_some_iff_getElem]
  refine ⟨hk, hp, fun j hj => ?_⟩
  rw [hno j _ hj (List.getElem?_eq_getElem (by omega))]
  simp
theorem find_none {α : Type} {p : α → Bool} {l : List α} (hno : ∀ (j : Nat) (y : α), j < l.length → l[j]? = some y → p y = false) : l.findIdx? p = none := by
  rw [List.findIdx?_eq_none_iff]
  intro x hx
  obtain ⟨j, hj, rfl⟩ := List.getElem_of_mem hx
  exact hno j _ hj (List.getElem?_eq_getElem hj)
/-- A place, or -1. -/
def plO (o : Option Nat) : Int := match o with | some i => (i : Int) | none => -1
theorem okV219 {R : Int → Prop} (hf : fits s 1000000) (z : R (plO (s.nodeAt v))) : Ok219v s.ns s.es s.nn s.ne l v R := by
  obtain ⟨f1, f2⟩ := hf
  apply ok219v
  unfold T219v
  refine ⟨fun i => ∃ k : Nat, i = k ∧ k ≤ s.ns.length ∧ ∀ (j : Nat) (y : Int), j < k → s.ns[j]? = some y → (y == v) = false, fun i => s.ns.length - i.toNat, ⟨0, rfl, Nat.zero_le _, fun j y h => by omega⟩, ?_⟩
  rintro _ ⟨k, rfl, hk, hno⟩
  refine cnd_dec (fun c => ⟨by omega, c, fun x hx => ?_⟩) fun c => ?_
  · rw [Int.toNat_natCast] at hx
    refine cnd_b (fun c2 => ?_) fun c2 => ?_
    · rw [RS.nodeAt, find_at hx c2 hno] at z; exact z
    · rw [wr (by omega) (by omega)]
      refine ⟨⟨k + 1, by omega, by omega, fun j y hj hy => ?_⟩, by dsimp only; omega⟩
      by_cases q : j = k
      · subst q; rw [hx] at hy; obtain rfl := Option.some.inj hy; exact c2
      · exact hno j y (by omega) hy
  · rw [RS.nodeAt, find_none fun j y hj hy => hno j y (by omega) hy] at z
    exact z
theorem okV221 {R : Int → Prop} (hf : fits s 1000000) (z : R (plO (s.edgeAt e))) : Ok221v s.ns s.es s.nn s.ne l e R := by
  obtain ⟨f1, f2⟩ := hf
  apply ok221v
  unfold T221v
  refine ⟨fun i => ∃ k : Nat, i = k ∧ k ≤ s.es.length ∧ ∀ (j : Nat) (y : Int × Int × Int), j < k → s.es[j]? = some y → (y.1 == e) = false, fun i => s.es.length - i.toNat, ⟨0, rfl, Nat.zero_le _, fun j y h => by omega⟩, ?_⟩
  rintro _ ⟨k, rfl, hk, hno⟩
  refine cnd_dec (fun c => ⟨by omega, c, fun x hx => ?_⟩) fun c => ?_
  · rw [Int.toNat_natCast] at hx
    refine cnd_b (fun c2 => ?_) fun c2 => ?_
    · rw [RS.edgeAt, find_at (p := fun x : Int × Int × Int => x.1 == e) hx c2 hno] at z; exact z
    · rw [wr (by omega) (by omega)]
      refine ⟨⟨k + 1, by omega, by omega, fun j y hj hy => ?_⟩, by dsimp only; omega⟩
      by_cases q : j = k
      · subst q; rw [hx] at hy; obtain rfl := Option.some.inj hy; exact c2
      · exact hno j y (by omega) hy
  · rw [RS.edgeAt, find_none (p := fun x : Int × Int × Int => x.1 == e) fun j y hj hy => hno j y (by omega) hy] at z
    exact z
theorem node_lt {i : Nat} (h : s.nodeAt v = some i) : i < s.ns.length := (List.findIdx?_eq_some_iff_getElem.1 h).1
theorem edge_lt {i : Nat} (h : s.edgeAt e = some i) : i < s.es.length := (List.findIdx?_eq_some_iff_getElem.1 h).1
theorem okV220 {R : List Int → List (Int × Int × Int) → Int → Int → Prop} (hf : fits s 1000000) (z : R s.ns s.es s.nn s.ne) : Ok220 s.ns s.es s.nn s.ne R := by
  obtain ⟨f1, f2⟩ := hf
  apply ok220
  unfold T220
  refine ⟨by omega, by omega, ?_⟩
  simpa using z
theorem okV186 {R : List Int → List (Int × Int × Int) → Int → Int → Int → Int → Int → Prop} (hf : fits s 1000000) (z : R s.addN.1.ns s.addN.1.es s.addN.1.nn s.addN.1.ne l s.addN.2.1 s.addN.2.2) : Ok186v s.ns s.es s.nn s.ne l R := by
  obtain ⟨f1, f2⟩ := hf
  apply ok186v
  unfold T186v
  refine cnd_eq (fun c => ?_) fun c => ⟨by omega, ?_⟩
  · rw [RS.addN, if_pos (by omega)] at z; exact z
  · rw [RS.addN, if_neg (by omega)] at z; exact z
theorem okV187 {R : List Int → List (Int × Int × Int) → Int → Int → Int → Int → Int → Prop} (hf : fits s 1000000) (z : R (s.addE u v).1.ns (s.addE u v).1.es (s.addE u v).1.nn (s.addE u v).1.ne l (s.addE u v).2.1 (s.addE u v).2.2) : Ok187v s.ns s.es s.nn s.ne l u v R := by
  have hf0 := hf
  obtain ⟨f1, f2⟩ := hf
  apply ok187v
  unfold T187v
  refine okV219 hf0 ?_
  cases hu : s.nodeAt u with
  | none => rw [RS.addE, if_pos (.inl hu)] at z; exact cnd_dec (fun _ => z) fun c => absurd (show (-1 : Int) < 0 by omega) c
  | some i =>
    refine cnd_dec (fun c => absurd c (by simp only [plO]; omega)) fun _ => okV219 hf0 ?_
    cases hv : s.nodeAt v with
    | none => rw [RS.addE, if_pos (.inr hv)] at z; exact cnd_dec (fun _ => z) fun c => absurd (show (-1 : Int) < 0 by omega) c
    | some j =>
      refine cnd_dec (fun c => absurd c (by simp only [plO]; omega)) fun _ => ?_
      rw [RS.addE, if_neg (by simp [hu, hv])] at z
      refine cnd_eq (fun c => ?_) fun c => ⟨by omega, ?_⟩
      · rw [if_pos (by omega)] at z; exact z
      · rw [if_neg (by omega)] at z; exact z
theorem okV189 {R : List Int → List (Int × Int × Int) → Int → Int → Int → Int → Prop} (hf : fits s 1000000) (z : R (s.dropE e).1.ns (s.dropE e).1.es (s.dropE e).1.nn (s.dropE e).1.ne l (s.dropE e).2) : Ok189v s.ns s.es s.nn s.ne l e R := by
  have hf0 := hf
  obtain ⟨f1, f2⟩ := hf
  apply ok189v
  unfold T189v
  refine okV221 hf0 ?_
  rw [RS.dropE] at z
  cases hu : s.edgeAt e with
  | none => rw [hu] at z; exact cnd_dec (fun _ => z) fun c => absurd (show (-1 : Int) < 0 by omega) c
  | some i =>
    rw [hu] at z
    have hi := edge_lt hu
    refine cnd_dec (fun c => absurd c (by simp only [plO]; omega)) fun _ => ?_
    simp only [plO]
    rw [wr (by omega) (by omega), show ((i : Int) + 1).toNat = i + 1 by omega, Int.toNat_natCast]
    refine ⟨by omega, by omega, by omega, by omega, by omega, by omega, ?_⟩
    rw [List.nil_append]
    exact z
theorem filter_snoc {α : Type} (p : α → Bool) {l : List α} {k : Nat} {x : α} (h : l[k]? = some x) : (l.take (k + 1)).filter p = (l.take k).filter p ++ if p x = true then [x] else [] := by
  rw [List.take_add_one, List.filter_append, h]
  cases q : p x <;> simp [q]
theorem okV188 {R : List Int → List (Int × Int × Int) → Int → Int → Int → Int → Int → Prop} (hf : fits s 1000000) (z : R (s.dropN v).1.ns (s.dropN v).1.es (s.dropN v).1.nn (s.dropN v).1.ne l (s.dropN v).2.1 (s.dropN v).2.2) : Ok188v s.ns s.es s.nn s.ne l v R := by
  have hf0 := hf
  obtain ⟨f1, f2⟩ := hf
  apply ok188v
  unfold T188v
  refine okV219 hf0 ?_
  rw [RS.dropN] at z
  cases hu : s.nodeAt v with
  | none => rw [hu] at z; exact cnd_dec (fun _ => z) fun c => absurd (show (-1 : Int) < 0 by omega) c
  | some i =>
    rw [hu] at z
    have hi := node_lt hu
    refine cnd_dec (fun c => absurd c (by simp only [plO]; omega)) fun _ => okV220 hf0 ?_
    simp only [plO]
    rw [wr (x := (i : Int) + 1) (by omega) (by omega), show ((i : Int) + 1).toNat = i + 1 by omega, Int.toNat_natCast]
    refine ⟨by omega, by omega, by omega, by omega, by omega, by omega, fun k c0 c1 c2 c3 => ∃ j : Nat, k = j ∧ j ≤ s.es.length ∧ c0 = s.ns.take i ++ s.ns.drop (i + 1) ∧ c1 = (s.es.take j).filter (fun x => !atN v x) ∧ c2 = s.nn ∧ c3 = s.ne, fun k _ _ _ _ => s.es.length - k.toNat, ⟨0, rfl, Nat.zero_le _, by simp, by simp, rfl, rfl⟩, ?_⟩
    rintro _ _ _ _ _ ⟨j, rfl, hj, rfl, rfl, rfl, rfl⟩
    have hlen : ((s.es.take j).filter (fun x => !atN v x)).length ≤ s.es.length := Nat.le_trans (List.length_filter_le _ _) (by simp; omega)
    refine cnd_dec (fun c => ?_) fun c => ?_
    · have hj2 : j < s.es.length := by omega
      obtain ⟨x, hx⟩ : ∃ x, s.es[j]? = some x := ⟨_, List.getElem?_eq_getElem hj2⟩
      have ef := filter_snoc (fun x => !atN v x) hx
      refine ⟨fun c0 c1 c2 c3 => c0 = s.ns.take i ++ s.ns.drop (i + 1) ∧ c1 = (s.es.take (j + 1)).filter (fun x => !atN v x) ∧ c2 = s.nn ∧ c3 = s.ne, ⟨by omega, c, fun x' hx' => ?_⟩, ?_⟩
      · rw [Int.toNat_natCast, hx] at hx'
        obtain rfl := Option.some.inj hx'
        have yes : atN v x = true → (s.es.take (j + 1)).filter (fun x => !atN v x) = (s.es.take j).filter (fun x => !atN v x) := fun q => by rw [ef, q]; simp
        refine cnd_ne (fun c2 => ⟨fun c0 c1 c2 c3 => c0 = s.ns.take i ++ s.ns.drop (i + 1) ∧ c1 = (s.es.take (j + 1)).filter (fun x => !atN v x) ∧ c2 = s.nn ∧ c3 = s.ne, cnd_ne (fun c3 => ⟨by omega, c, fun x' hx' => ⟨by omega, rfl, ?_, rfl, rfl⟩⟩) fun c3 => ⟨rfl, (yes (by simp [atN, c3])).symm, rfl, rfl⟩, fun _ _ _ _ q => q⟩) fun c2 => ⟨rfl, (yes (by simp [atN, c2])).symm, rfl, rfl⟩
        rw [Int.toNat_natCast, hx] at hx'
        obtain rfl := Option.some.inj hx'
        rw [ef, show atN v x = false by simp [atN, c2, c3]]
        rfl
      · rintro _ _ _ _ ⟨rfl, rfl, rfl, rfl⟩
        rw [wr (by omega) (by omega)]
        exact ⟨⟨j + 1, by omega, by omega, rfl, rfl, rfl, rfl⟩, by dsimp only; omega⟩
    · have ej : j = s.es.length := by omega
      subst ej
      rw [List.take_length] at hlen ⊢
      rw [wr (by omega) (by omega)]
      exact z
theorem okV193 {R : Int → Int → Int → Prop} (hf : fits s 1000000) (z : R (s.ends e).1 (s.ends e).2.1 (s.ends e).2.2) : Ok193v s.ns s.es s.nn s.ne l e R := by
  have hf0 := hf
  obtain ⟨f1, f2⟩ := hf
  apply ok193v
  unfold T193v
  refine okV221 hf0 ?_
  rw [RS.ends] at z
  cases hu : s.edgeAt e with
  | none => rw [hu] at z; exact cnd_dec (fun _ => z) fun c => absurd (show (-1 : Int) < 0 by omega) c
  | some i =>
    rw [hu] at z
    have hi := edge_lt hu
    refine cnd_dec (fun c => absurd c (by simp only [plO]; omega)) fun _ => ⟨by simp only [plO]; omega, by simp only [plO]; omega, fun x hx => ?_⟩
    simp only [plO, Int.toNat_natCast] at hx
    simp only [List.getD_eq_getElem?_getD, hx, Option.getD_some] at z
    exact z
theorem okV222 {R : List Int → Prop} (hf : fits s 1000000) (z : R (s.edges v)) : Ok222v s.ns s.es s.nn s.ne l v R := by
  obtain ⟨f1, f2⟩ := hf
  apply ok222v
  unfold T222v
  refine ⟨fun a k => ∃ j : Nat, k = j ∧ j ≤ s.es.length ∧ a = ((s.es.take j).filter (atN v)).map (·.1), fun _ k => s.es.length - k.toNat, ⟨0, rfl, Nat.zero_le _, by simp⟩, ?_⟩
  rintro _ _ ⟨j, rfl, hj, rfl⟩
  have hlen : (((s.es.take j).filter (atN v)).map (·.1)).length ≤ s.es.length := by
    rw [List.length_map]; exact Nat.le_trans (List.length_filter_le _ _) (by simp; omega)
  refine cnd_dec (fun c => ⟨by omega, c, fun x hx => ?_⟩) fun c => ?_
  · rw [Int.toNat_natCast] at hx
    have ef := congrArg (List.map (·.1)) (filter_snoc (atN v) hx)
    rw [List.map_append] at ef
    rw [wr (by omega) (by omega)]
    have yes : atN v x = true → ((s.es.take (j + 1)).filter (atN v)).map (·.1) = ((s.es.take j).filter (atN v)).map (·.1) ++ [x.1] := fun q => by rw [ef, q]; rfl
    have no : atN v x = false → ((s.es.take (j + 1)).filter (atN v)).map (·.1) = ((s.es.take j).filter (atN v)).map (·.1) := fun q => by rw [ef, q]; simp
    refine cnd_eq (fun c2 => ⟨by omega, ⟨j + 1, by omega, by omega, (yes (by simp [atN, c2])).symm⟩, by dsimp only; omega⟩) fun c2 => ?_
    refine ⟨fun a => a = ((s.es.take (j + 1)).filter (atN v)).map (·.1), cnd_eq (fun c3 => ⟨by omega, (yes (by simp [atN, c3])).symm⟩) fun c3 => (no (by simp [atN, c2, c3])).symm, ?_⟩
    rintro _ rfl
    exact ⟨⟨j + 1, by omega, by omega, rfl⟩, by dsimp only; omega⟩
  · have ej : j = s.es.length := by omega
    subst ej
    rw [List.take_length]
    exact z
end
end Go.Proofs.Ytmcloipjlihhlaa.N

/- The document's graph: split, unsplit, move over its fields. Conditions: none. -/
set_option linter.unusedSimpArgs false
namespace Go.Proofs.Ytmcloipjlihhlaa.N
open Go.Proofs.Ytmcloipjlihhlaa
open Go.X
section
variable {s : RS} {l u v e en : Int}
theorem addN_es0 (s : RS) : s.addN.1.es = s.es := by unfold RS.addN; split <;> rfl
theorem addN_len (s : RS) : s.addN.1.ns.length ≤ s.ns.length + 1 := by unfold RS.addN; split <;> simp
theorem okV190 {R : List Int → List (Int × Int × Int) → Int → Int → Int → Int → Int → Int → Prop} (hf : fits s 900000) (z : R (s.split e).1.ns (s.split e).1.es (s.split e).1.nn (s.split e).1.ne l (s.split e).2.1 (s.split e).2.2.1 (s.split e).2.2.2) : Ok190v s.ns s.es s.nn s.ne l e R := by
  have hf0 := hf
  obtain ⟨f1, f2⟩ := hf
  apply ok190v
  unfold T190v
  refine okV221 ⟨by omega, by omega⟩ ?_
  rw [RS.split] at z
  cases hu : s.edgeAt e with
  | none => rw [hu] at z; exact cnd_dec (fun _ => z) fun c => absurd (show (-1 : Int) < 0 by omega) c
  | some i =>
    rw [hu] at z
    have hi := edge_lt hu
    refine cnd_dec (fun c => absurd c (by simp only [plO]; omega)) fun _ => ?_
    refine cnd_eq (fun c => ?_) fun c => ?_
    · simp only at z; rw [if_pos (.inl (by omega))] at z; exact z
    refine cnd_eq (fun c2 => ?_) fun c2 => ?_
    · simp only at z; rw [if_pos (.inr (by omega))] at z; exact z
    simp only at z
    rw [if_neg (by omega)] at z
    refine okV186 ⟨by omega, by omega⟩ ?_
    simp only [plO]
    rw [addN_es0]
    refine ⟨by omega, by omega, fun x hx => ?_⟩
    rw [Int.toNat_natCast] at hx ⊢
    have hg : s.es.getD i (0, 0, 0) = x := by rw [List.getD_eq_getElem?_getD, hx]; rfl
    rw [hg] at z
    have hm : s.es.set i (x.1, x.2.1, s.addN.2.1) = s.es.modify i (setW s.addN.2.1) := set_modify (f := setW s.addN.2.1) hx
    rw [hm]
    have := addN_len s
    exact okV187 (s := { s.addN.1 with es := s.es.modify i (setW s.addN.2.1) }) ⟨by show s.addN.1.ns.length ≤ _; omega, by show (s.es.modify i _).length ≤ _; rw [List.length_modify]; omega⟩ z
theorem okV192 {R : List Int → List (Int × Int × Int) → Int → Int → Int → Int → Prop} (hf : fits s 1000000) (z : R (s.move e en v).1.ns (s.move e en v).1.es (s.move e en v).1.nn (s.move e en v).1.ne l (s.move e en v).2) : Ok192v s.ns s.es s.nn s.ne l e en v R := by
  have hf0 := hf
  obtain ⟨f1, f2⟩ := hf
  apply ok192v
  unfold T192v
  refine okV221 hf0 ?_
  rw [RS.move] at z
  refine ⟨(s.edgeAt e = none ∨ s.nodeAt v = none ∨ en < 0), ?_, fun q => ?_⟩
  · cases hu : s.edgeAt e with
    | none => exact cnd_dec (fun _ => .inl rfl) fun c => absurd (show (-1 : Int) < 0 by omega) c
    | some i =>
      rw [hu] at z
      have hi := edge_lt hu
      simp only at z
      refine cnd_dec (fun c => absurd c (by simp only [plO]; omega)) fun _ => okV219 hf0 ?_
      cases hv : s.nodeAt v with
      | none => exact cnd_dec (fun _ => .inr (.inl rfl)) fun c => absurd (show (-1 : Int) < 0 by omega) c
      | some j =>
        refine cnd_dec (fun c => absurd c (by simp only [plO]; omega)) fun _ => ?_
        refine cnd_dec (fun c => .inr (.inr c)) fun c => ?_
        refine cnd_dec (fun c2 => ?_) fun c2 => ?_
        · rw [if_pos (.inr (.inr (by omega)))] at z; exact z
        · rw [if_neg (by simp [hv]; omega)] at z
          refine ⟨fun es => es = s.es.modify i (if en = 0 then setU v else setW v), cnd_eq (fun c3 => ⟨by simp only [plO]; omega, by simp only [plO]; omega, fun x hx => ?_⟩) fun c3 => ⟨by simp only [plO]; omega, by simp only [plO]; omega, fun x hx => ?_⟩, ?_⟩
          · simp only [plO, Int.toNat_natCast] at hx ⊢
            rw [if_pos c3]; exact set_modify (f := setU v) hx
          · simp only [plO, Int.toNat_natCast] at hx ⊢
            rw [if_neg c3]; exact set_modify (f := setW v) hx
          · rintro _ rfl
            exact z
  · cases hu : s.edgeAt e with
    | none => rw [hu] at z; exact z
    | some i =>
      rw [hu] at z q
      simp only at z
      rw [if_pos (by
        rcases q with q | q | q
        · cases q
        · exact .inl q
        · exact .inr (.inl q))] at z
      exact z
theorem plcs_app (v : Int) : ∀ (a b : List (Int × Int × Int)) (i : Nat), plcs v i (a ++ b) = plcs v i a ++ plcs v (i + a.length) b
  | [], b, i => by simp [plcs]
  | x :: a, b, i => by
    simp only [List.cons_append, plcs, plcs_app v a b (i + 1), List.append_assoc, List.length_cons]
    rw [show i + 1 + a.length = i + (a.length + 1) by omega]
theorem plcs_snoc {v : Int} {l : List (Int × Int × Int)} {k : Nat} {x : Int × Int × Int} (h : l[k]? = some x) : plcs v 0 (l.take (k + 1)) = plcs v 0 (l.take k) ++ if atN v x = true then [(k : Int)] else [] := by
  have hk := (List.getElem?_eq_some_iff.1 h).1
  rw [List.take_add_one, plcs_app, h]
  simp only [Option.toList, plcs, List.append_nil, List.length_take]
  rw [show 0 + min k l.length = k by omega]
theorem plcs_len (v : Int) : ∀ (l : List (Int × Int × Int)) (i : Nat), (plcs v i l).length ≤ l.length
  | [], i => by simp [plcs]
  | x :: l, i => by
    have := plcs_len v l (i + 1)
    simp only [plcs, List.length_append, List.length_cons]
    split <;> simp <;> omega
theorem plcs_mem {v : Int} {l : List (Int × Int × Int)} {w : Int} (h : w ∈ plcs v 0 l) : 0 ≤ w ∧ w < l.length := by
  obtain ⟨-, pm, -⟩ := plcs_map v l 0
  have := pm w h
  omega
theorem okV191 {R : List Int → List (Int × Int × Int) → Int → Int → Int → Int → Int → Prop} (hf : fits s 1000000) (z : R (s.unsplit v).1.ns (s.unsplit v).1.es (s.unsplit v).1.nn (s.unsplit v).1.ne l (s.unsplit v).2.1 (s.unsplit v).2.2) : Ok191v s.ns s.es s.nn s.ne l v R := by
  have hf0 := hf
  obtain ⟨f1, f2⟩ := hf
  apply ok191v
  unfold T191v
  refine okV219 hf0 ?_
  rw [RS.unsplit] at z
  cases hu : s.nodeAt v with
  | none => rw [hu] at z; exact cnd_dec (fun _ => z) fun c => absurd (show (-1 : Int) < 0 by omega) c
  | some i0 =>
    rw [hu] at z
    simp only at z
    refine cnd_dec (fun c => absurd c (by simp only [plO]; omega)) fun _ => ?_
    refine ⟨fun a k => ∃ j : Nat, k = j ∧ j ≤ s.es.length ∧ a = plcs v 0 (s.es.take j) ∧ ∀ x ∈ s.es.take j, (x.2.1 == v && x.2.2 == v) = false, fun _ k => s.es.length - k.toNat, ⟨0, rfl, Nat.zero_le _, by simp [plcs], by simp⟩, ?_⟩
    rintro _ _ ⟨j, rfl, hj, rfl, hno⟩
    have hpl := plcs_len v (s.es.take j) 0
    rw [List.length_take] at hpl
    refine cnd_dec (fun c => ⟨by omega, c, fun x hx => ?_⟩) fun c => ?_
    · rw [Int.toNat_natCast] at hx
      have ef := plcs_snoc (v := v) hx
      have yes : atN v x = true → plcs v 0 (s.es.take (j + 1)) = plcs v 0 (s.es.take j) ++ [(j : Int)] := fun q => by rw [ef, q]; rfl
      have no : atN v x = false → plcs v 0 (s.es.take (j + 1)) = plcs v 0 (s.es.take j) := fun q => by rw [ef, q]; simp
      refine ⟨(x.2.1 == v && x.2.2 == v) = false, cnd_eq (fun c1 => cnd_eq (fun c2 => ?_) fun c2 => by simp [c2]) fun c1 => by simp [c1], fun q => ?_⟩
      · have : (s.es.any fun x => x.2.1 == v && x.2.2 == v) = true := List.any_eq_true.2 ⟨x, List.mem_of_getElem? hx, by simp [c1, c2]⟩
        rw [if_pos this] at z
        exact z
      · have hno' : ∀ y ∈ s.es.take (j + 1), (y.2.1 == v && y.2.2 == v) = false := by
          intro y hy
          rw [List.take_add_one, List.mem_append, hx] at hy
          rcases hy with hy | hy
          · exact hno y hy
          · simp at hy; subst hy; exact q
        rw [wr (by omega) (by omega)]
        refine cnd_eq (fun c1 => ⟨by omega, ⟨j + 1, by omega, by omega, (yes (by simp [atN, c1])).symm, hno'⟩, by dsimp only; omega⟩) fun c1 => ?_
        refine ⟨fun a => a = plcs v 0 (s.es.take (j + 1)), cnd_eq (fun c2 => ⟨by omega, (yes (by simp [atN, c2])).symm⟩) fun c2 => (no (by simp [atN, c1, c2])).symm, ?_⟩
        rintro _ rfl
        exact ⟨⟨j + 1, by omega, by omega, rfl, hno'⟩, by dsimp only; omega⟩
    · have ej : j = s.es.length := by omega
      subst ej
      rw [List.take_length] at hno ⊢
      have : ¬(s.es.any fun x => x.2.1 == v && x.2.2 == v) = true := by
        intro q
        obtain ⟨x, hx, q⟩ := List.any_eq_true.1 q
        rw [hno x hx] at q; cases q
      rw [if_neg this] at z
      have hmem : ∀ w ∈ plcs v 0 s.es, 0 ≤ w ∧ w < s.es.length := fun w hw => plcs_mem hw
      refine cnd_ne (fun c2 => ?_) fun c2 => ?_
      · split at z
        · rename_i i j e2
          rw [e2] at c2
          exact absurd rfl c2
        · exact z
      · obtain ⟨i, j, hij⟩ : ∃ i j, plcs v 0 s.es = [i, j] := by
          match hh : plcs v 0 s.es, c2 with
          | [i, j], _ => exact ⟨i, j, rfl⟩
        rw [hij] at z hmem ⊢
        simp only at z
        obtain ⟨i1, i2⟩ := hmem i (by simp)
        obtain ⟨j1, j2⟩ := hmem j (by simp)
        refine ⟨by omega, by simp, fun j' hj' => ?_⟩
        obtain rfl : j = j' := by simpa using hj'
        refine ⟨j1, j2, fun f hf => ?_⟩
        have gf : s.es.getD j.toNat (0, 0, 0) = f := by rw [List.getD_eq_getElem?_getD, hf]; rfl
        rw [gf] at z
        refine ⟨fun far => far = farE v f, cnd_eq (fun c => by rw [farE, if_pos c]) fun c => by rw [farE, if_neg c], ?_⟩
        rintro _ rfl
        refine ⟨by omega, by simp, fun i' hi' => ?_⟩
        obtain rfl : i = i' := by simpa using hi'
        refine ⟨i1, i2, fun x hx => ⟨fun es => es = s.es.modify i.toNat (turnE v (farE v f)), ?_, ?_⟩⟩
        · refine cnd_eq (fun c => ?_) fun c => ?_
          · rw [← set_modify (f := turnE v (farE v f)) hx, turnE, if_pos c]; rfl
          · rw [← set_modify (f := turnE v (farE v f)) hx, turnE, if_neg c]; rfl
        · clear hx x
          rintro _ rfl x hx
          have gx : (s.es.getD i.toNat (0, 0, 0)).1 = x.1 := by
            rw [List.getElem?_modify] at hx
            cases hy : s.es[i.toNat]? with
            | none => rw [hy] at hx; simp at hx
            | some y =>
              rw [hy] at hx
              simp at hx
              rw [List.getD_eq_getElem?_getD, hy, ← hx]
              unfold turnE
              split <;> rfl
          rw [gx] at z
          refine okV189 (s := { s with es := s.es.modify i.toNat (turnE v (farE v f)) }) ⟨f1, by show (s.es.modify _ _).length ≤ _; rw [List.length_modify]; exact f2⟩ ?_
          refine okV188 ⟨?_, ?_⟩ z
          · have : ∀ t : RS, (t.dropE f.1).1.ns.length ≤ t.ns.length := fun t => by unfold RS.dropE; split <;> exact Nat.le_refl _
            exact Nat.le_trans (this _) f1
          · have : ∀ t : RS, (t.dropE f.1).1.es.length ≤ t.es.length := fun t => by
              unfold RS.dropE
              split
              · exact Nat.le_refl _
              · rename_i i h
                have := edge_lt h
                simp only [List.length_append, List.length_take, List.length_drop]
                omega
            exact Nat.le_trans (this _) (by show (s.es.modify _ _).length ≤ _; rw [List.length_modify]; exact f2)
end
end Go.Proofs.Ytmcloipjlihhlaa.N

/- The document's graph as a chunk: its functions. Conditions: none. -/
set_option linter.unusedSimpArgs false
namespace Go.Proofs.Ytmcloipjlihhlaa.N
open Go.Proofs.Ytmcloipjlihhlaa
open Go.X
section
variable {D : RG} {l u v e en : Int}
theorem hp3 {h0 h : Heap} {M : List Nat} {a b c : Ck} {B : List Ck} (Y : Sy h0 M h (a :: b :: c :: B)) : Hp h [a, b, c] :=
  ⟨fun _ _ hk => Y.ok (appL (A := [a, b, c]) (B := B) hk), fun i j x y hij hi hj => Y.hp.ap i j x y hij (appL (A := [a, b, c]) (B := B) hi) (appL (A := [a, b, c]) (B := B) hj)⟩
theorem okD186 {R : RG → Int → Int → Prop} (hf : fits D.s 900000) (z : R { D with s := D.s.addN.1 } D.s.addN.2.1 D.s.addN.2.2) : Ok186 D R := by
  intro h b bs hp
  have Y0 : Sy h _ h [_] := Sy.startM hp rfl
  obtain ⟨nA, nL, nC, eA, eL, eC, mA, mL, mC, ps, q, Y⟩ := Y0.openD
  have c : Ok186v D.s.ns D.s.es D.s.nn D.s.ne D.last (fun ns es nn ne l ra rb => R ⟨⟨ns, es, nn, ne⟩, D.marks, l⟩ ra rb) := okV186 (s := D.s) ⟨Nat.le_trans hf.1 (by decide), Nat.le_trans hf.2 (by decide)⟩ z
  refine (c h b nA nL nC eA eL eC mA mL mC (hp3 Y)).mono fun _ h' ⟨nA2, nL2, nC2, ns, eA2, eL2, eC2, es, nn, ne, l2, ra, rb, P, e1, z⟩ => ?_
  have Y : Sy h _ h' ([_, _, _] ++ [_, _]) := Sy.call (A := [_, _, _]) (B := [_, _]) Y P ⟨rfl, rfl, rfl, trivial⟩
  exact ⟨_, ⟨⟨ns, es, nn, ne⟩, D.marks, l2⟩, _, _, Sy.packD ⟨⟨ns, es, nn, ne⟩, D.marks, l2⟩ q (B := []) Y, e1, z⟩
theorem okD187 {R : RG → Int → Int → Prop} (hf : fits D.s 900000) (z : R { D with s := (D.s.addE u v).1 } (D.s.addE u v).2.1 (D.s.addE u v).2.2) : Ok187 D u v R := by
  intro h b bs hp
  have Y0 : Sy h _ h [_] := Sy.startM hp rfl
  obtain ⟨nA, nL, nC, eA, eL, eC, mA, mL, mC, ps, q, Y⟩ := Y0.openD
  have c : Ok187v D.s.ns D.s.es D.s.nn D.s.ne D.last u v (fun ns es nn ne l ra rb => R ⟨⟨ns, es, nn, ne⟩, D.marks, l⟩ ra rb) := okV187 (s := D.s) ⟨Nat.le_trans hf.1 (by decide), Nat.le_trans hf.2 (by decide)⟩ z
  refine (c h b nA nL nC eA eL eC mA mL mC (hp3 Y)).mono fun _ h' ⟨nA2, nL2, nC2, ns, eA2, eL2, eC2, es, nn, ne, l2, ra, rb, P, e1, z⟩ => ?_
  have Y : Sy h _ h' ([_, _, _] ++ [_, _]) := Sy.call (A := [_, _, _]) (B := [_, _]) Y P ⟨rfl, rfl, rfl, trivial⟩
  exact ⟨_, ⟨⟨ns, es, nn, ne⟩, D.marks, l2⟩, _, _, Sy.packD ⟨⟨ns, es, nn, ne⟩, D.marks, l2⟩ q (B := []) Y, e1, z⟩
theorem okD188 {R : RG → Int → Int → Prop} (hf : fits D.s 900000) (z : R { D with s := (D.s.dropN v).1 } (D.s.dropN v).2.1 (D.s.dropN v).2.2) : Ok188 D v R := by
  intro h b bs hp
  have Y0 : Sy h _ h [_] := Sy.startM hp rfl
  obtain ⟨nA, nL, nC, eA, eL, eC, mA, mL, mC, ps, q, Y⟩ := Y0.openD
  have c : Ok188v D.s.ns D.s.es D.s.nn D.s.ne D.last v (fun ns es nn ne l ra rb => R ⟨⟨ns, es, nn, ne⟩, D.marks, l⟩ ra rb) := okV188 (s := D.s) ⟨Nat.le_trans hf.1 (by decide), Nat.le_trans hf.2 (by decide)⟩ z
  refine (c h b nA nL nC eA eL eC mA mL mC (hp3 Y)).mono fun _ h' ⟨nA2, nL2, nC2, ns, eA2, eL2, eC2, es, nn, ne, l2, ra, rb, P, e1, z⟩ => ?_
  have Y : Sy h _ h' ([_, _, _] ++ [_, _]) := Sy.call (A := [_, _, _]) (B := [_, _]) Y P ⟨rfl, rfl, rfl, trivial⟩
  exact ⟨_, ⟨⟨ns, es, nn, ne⟩, D.marks, l2⟩, _, _, Sy.packD ⟨⟨ns, es, nn, ne⟩, D.marks, l2⟩ q (B := []) Y, e1, z⟩
theorem okD189 {R : RG → Int → Prop} (hf : fits D.s 900000) (z : R { D with s := (D.s.dropE e).1 } (D.s.dropE e).2) : Ok189 D e R := by
  intro h b bs hp
  have Y0 : Sy h _ h [_] := Sy.startM hp rfl
  obtain ⟨nA, nL, nC, eA, eL, eC, mA, mL, mC, ps, q, Y⟩ := Y0.openD
  have c : Ok189v D.s.ns D.s.es D.s.nn D.s.ne D.last e (fun ns es nn ne l ra => R ⟨⟨ns, es, nn, ne⟩, D.marks, l⟩ ra) := okV189 (s := D.s) ⟨Nat.le_trans hf.1 (by decide), Nat.le_trans hf.2 (by decide)⟩ z
  refine (c h b nA nL nC eA eL eC mA mL mC (hp3 Y)).mono fun _ h' ⟨nA2, nL2, nC2, ns, eA2, eL2, eC2, es, nn, ne, l2, ra, P, e1, z⟩ => ?_
  have Y : Sy h _ h' ([_, _, _] ++ [_, _]) := Sy.call (A := [_, _, _]) (B := [_, _]) Y P ⟨rfl, rfl, rfl, trivial⟩
  exact ⟨_, ⟨⟨ns, es, nn, ne⟩, D.marks, l2⟩, _, Sy.packD ⟨⟨ns, es, nn, ne⟩, D.marks, l2⟩ q (B := []) Y, e1, z⟩
theorem okD190 {R : RG → Int → Int → Int → Prop} (hf : fits D.s 900000) (z : R { D with s := (D.s.split e).1 } (D.s.split e).2.1 (D.s.split e).2.2.1 (D.s.split e).2.2.2) : Ok190 D e R := by
  intro h b bs hp
  have Y0 : Sy h _ h [_] := Sy.startM hp rfl
  obtain ⟨nA, nL, nC, eA, eL, eC, mA, mL, mC, ps, q, Y⟩ := Y0.openD
  have c : Ok190v D.s.ns D.s.es D.s.nn D.s.ne D.last e (fun ns es nn ne l ra rb rc => R ⟨⟨ns, es, nn, ne⟩, D.marks, l⟩ ra rb rc) := okV190 (s := D.s) hf z
  refine (c h b nA nL nC eA eL eC mA mL mC (hp3 Y)).mono fun _ h' ⟨nA2, nL2, nC2, ns, eA2, eL2, eC2, es, nn, ne, l2, ra, rb, rc, P, e1, z⟩ => ?_
  have Y : Sy h _ h' ([_, _, _] ++ [_, _]) := Sy.call (A := [_, _, _]) (B := [_, _]) Y P ⟨rfl, rfl, rfl, trivial⟩
  exact ⟨_, ⟨⟨ns, es, nn, ne⟩, D.marks, l2⟩, _, _, _, Sy.packD ⟨⟨ns, es, nn, ne⟩, D.marks, l2⟩ q (B := []) Y, e1, z⟩
theorem okD191 {R : RG → Int → Int → Prop} (hf : fits D.s 900000) (z : R { D with s := (D.s.unsplit v).1 } (D.s.unsplit v).2.1 (D.s.unsplit v).2.2) : Ok191 D v R := by
  intro h b bs hp
  have Y0 : Sy h _ h [_] := Sy.startM hp rfl
  obtain ⟨nA, nL, nC, eA, eL, eC, mA, mL, mC, ps, q, Y⟩ := Y0.openD
  have c : Ok191v D.s.ns D.s.es D.s.nn D.s.ne D.last v (fun ns es nn ne l ra rb => R ⟨⟨ns, es, nn, ne⟩, D.marks, l⟩ ra rb) := okV191 (s := D.s) ⟨Nat.le_trans hf.1 (by decide), Nat.le_trans hf.2 (by decide)⟩ z
  refine (c h b nA nL nC eA eL eC mA mL mC (hp3 Y)).mono fun _ h' ⟨nA2, nL2, nC2, ns, eA2, eL2, eC2, es, nn, ne, l2, ra, rb, P, e1, z⟩ => ?_
  have Y : Sy h _ h' ([_, _, _] ++ [_, _]) := Sy.call (A := [_, _, _]) (B := [_, _]) Y P ⟨rfl, rfl, rfl, trivial⟩
  exact ⟨_, ⟨⟨ns, es, nn, ne⟩, D.marks, l2⟩, _, _, Sy.packD ⟨⟨ns, es, nn, ne⟩, D.marks, l2⟩ q (B := []) Y, e1, z⟩
theorem okD192 {R : RG → Int → Prop} (hf : fits D.s 900000) (z : R { D with s := (D.s.move e en v).1 } (D.s.move e en v).2) : Ok192 D e en v R := by
  intro h b bs hp
  have Y0 : Sy h _ h [_] := Sy.startM hp rfl
  obtain ⟨nA, nL, nC, eA, eL, eC, mA, mL, mC, ps, q, Y⟩ := Y0.openD
  have c : Ok192v D.s.ns D.s.es D.s.nn D.s.ne D.last e en v (fun ns es nn ne l ra => R ⟨⟨ns, es, nn, ne⟩, D.marks, l⟩ ra) := okV192 (s := D.s) ⟨Nat.le_trans hf.1 (by decide), Nat.le_trans hf.2 (by decide)⟩ z
  refine (c h b nA nL nC eA eL eC mA mL mC (hp3 Y)).mono fun _ h' ⟨nA2, nL2, nC2, ns, eA2, eL2, eC2, es, nn, ne, l2, ra, P, e1, z⟩ => ?_
  have Y : Sy h _ h' ([_, _, _] ++ [_, _]) := Sy.call (A := [_, _, _]) (B := [_, _]) Y P ⟨rfl, rfl, rfl, trivial⟩
  exact ⟨_, ⟨⟨ns, es, nn, ne⟩, D.marks, l2⟩, _, Sy.packD ⟨⟨ns, es, nn, ne⟩, D.marks, l2⟩ q (B := []) Y, e1, z⟩
theorem okD193 {R : RG → Int → Int → Int → Prop} (hf : fits D.s 900000) (z : R D (D.s.ends e).1 (D.s.ends e).2.1 (D.s.ends e).2.2) : Ok193 D e R := by
  intro h b bs hp
  have Y0 : Sy h _ h [_] := Sy.startM hp rfl
  obtain ⟨nA, nL, nC, eA, eL, eC, mA, mL, mC, ps, q, Y⟩ := Y0.openD
  have c : Ok193v D.s.ns D.s.es D.s.nn D.s.ne D.last e (fun ra rb rc => R D ra rb rc) := okV193 (s := D.s) ⟨Nat.le_trans hf.1 (by decide), Nat.le_trans hf.2 (by decide)⟩ z
  have Yv := ((Y.turn 0 rfl To.obvob).turn 1 rfl To.slvw).turn 2 rfl To.slvw
  refine (c h b 0 nA nL nC eA eL eC mA mL mC (hp3 Yv)).mono fun _ h' ⟨ra, rb, rc, P, e1, z⟩ => ?_
  exact ⟨_, D, _, _, _, Y0.gr P.fr, e1, z⟩
/-- What was, copied. -/
def _root_.Go.X.RG.markD (D : RG) : RG := ⟨D.s, D.marks ++ [(w64 (D.last + 1), D.s)], w64 (D.last + 1)⟩
theorem okD195 {R : RG → Int → Prop} (hf : fits D.s 900000) (hm : D.marks.length ≤ 64) (k0 : D.marks.length = 64 → R D 0) (k1 : D.marks.length < 64 → R D.markD (w64 (D.last + 1))) : Ok195 D R := by
  intro h b bs hp
  have Y0 : Sy h _ h [_] := Sy.startM hp rfl
  obtain ⟨nA, nL, nC, eA, eL, eC, mA, mL, mC, ps, q, Y⟩ := Y0.openD
  have Y : Sy h _ h [_, _, _, _, _] := Y
  have lps : ps.length = D.marks.length := by rw [← q, List.length_map]
  obtain rfl := Y.lenS 3 rfl
  apply calls195
  unfold S195
  refine ⟨b, 0, rfl, _, _, _, Y.cellO 0 rfl 4 rfl, cnd_eq (fun c => ⟨_, D, _, Y0, rfl, k0 (by omega)⟩) fun c => ?_⟩
  have hlt : D.marks.length < 64 := by omega
  refine ⟨b, 0, rfl, _, Y.cellO 0 rfl 5 rfl, b, 0, rfl, ⟨_, Y.cellO 0 rfl 5 rfl⟩, Y.freeO 0 rfl _, ?_⟩
  intro hv
  have Y : Sy _ _ hv [_, _, _, _, _] := Y.stO 0 rfl 5 _
  clear_value hv
  have nb : b ∉ blkOf mA := fun q => (Y.hp.ap 0 3 _ _ (by omega) rfl rfl b (by simp [Ck.ob])).1 q
  refine ⟨blkOf mA, alln, b, 0, rfl, nb, _, _, _, Y.cellO 0 rfl 4 rfl, b, 0, rfl, nb, _, Y.cellO 0 rfl 5 rfl, b, 0, rfl, nb, _, _, _, Y.cellO 0 rfl 0 rfl, _, _, _, Y.cellO 0 rfl 1 rfl, _, Y.cellO 0 rfl 2 rfl, _, Y.cellO 0 rfl 3 rfl, ?_⟩
  have cc : Ok220 D.s.ns D.s.es D.s.nn D.s.ne (fun a b c d => a = D.s.ns ∧ b = D.s.es ∧ c = D.s.nn ∧ d = D.s.ne) := okV220 (s := D.s) ⟨Nat.le_trans hf.1 (by decide), Nat.le_trans hf.2 (by decide)⟩ ⟨rfl, rfl, rfl, rfl⟩
  have Yv := (Y.turn 1 rfl To.slvw).turn 2 rfl To.slvw
  have hv2 : Hp hv [_, _] := (Yv.pick [1, 2] rfl).hp
  refine callX_sy (cc hv _ _ _ _ _ _ hv2) (fun _ _ ⟨_, _, _, _, _, _, _, _, _, _, p, _⟩ => p.fr) alln ?_
  rintro _ hv2 ⟨rA, rL, rC, ns, rA2, rL2, rC2, es, nn, ne, P, rfl, rfl, rfl, rfl, rfl⟩
  have F : Fr (blkOf mA) hv hv2 := P.fr.nil
  have Y : Sy _ _ hv2 [_, _, _, _, _, _, _] := Y.callV P ⟨rfl, rfl, trivial⟩
  refine ⟨_, _, _, _, _, _, _, _, rfl, F, ?_⟩
  intro hv3
  have F : Fr (blkOf mA) hv hv3 := F.pushr _
  have Y : Sy _ _ hv3 [_, _, _, _, _, _, _, _] := Y.junk _
  clear_value hv3
  refine ⟨F, _, Y.ownS 3 rfl, allc (Y.nJ 3 7 rfl rfl rfl) alln, by omega, by simp [maxLen]; omega, ?_⟩
  intro sA sC hv4 ow fA gA gB
  have Y : Sy _ _ hv4 [_, _, _, _, _, _, _, _] := Y.appS 3 rfl ([(⟨rA, rL, rC, rA2, rL2, rC2⟩, w64 (D.last + 1), D.s)] : List (StH × Int × RS)) ow fA gA rfl rfl
  refine ⟨F.trans fA, b, 0, rfl, Y.neJ 0 7 rfl rfl rfl (by simp [Ck.ob]), ⟨_, Y.cellO 0 rfl 4 rfl⟩, Y.freeO 0 rfl _, ?_⟩
  intro hv5
  have Y : Sy _ _ hv5 [_, _, _, _, _, _, _, _] := Y.stO 0 rfl 4 _
  clear_value hv5
  refine ⟨b, 0, rfl, _, Y.cellO 0 rfl 5 rfl, ?_⟩
  have Y1 := Sy.keepM (t := ⟨rA, rL, rC, rA2, rL2, rC2⟩) (n := w64 (D.last + 1)) (s := D.s) (B := [_, _, _, _]) (Y.pick [4, 5, 6, 0, 1, 2, 3] rfl)
  have Y2 := Y1.pick [1, 2, 3, 4, 0] rfl
  exact ⟨_, D.markD, _, Sy.packD D.markD (by simp [RG.markD, q]) (B := []) Y2, rfl, k1 hlt⟩
def _root_.Go.X.RG.backD (D : RG) (i : Nat) (s : RS) : RG := ⟨s, D.marks.take (i + 1), D.last⟩
theorem okD196 {n : Int} {R : RG → Int → Prop} (hm : D.marks.length ≤ 64) (hf : ∀ m ∈ D.marks, fits m.2 900000) (k0 : (∀ m ∈ D.marks, m.1 ≠ n) → R D 14)
    (k1 : ∀ i s, D.marks[i]? = some (n, s) → (∀ j m, j < i → D.marks[j]? = some m → m.1 ≠ n) → R (D.backD i s) 0) : Ok196 D n R := by
  intro h b bs hp
  have Y0 : Sy h _ h [_] := Sy.startM hp rfl
  obtain ⟨nA, nL, nC, eA, eL, eC, mA, mL, mC, ps, q, Y⟩ := Y0.openD
  have Y : Sy h _ h [_, _, _, _, _] := Y
  have lps : ps.length = D.marks.length := by rw [← q, List.length_map]
  obtain rfl := Y.lenS 3 rfl
  apply calls196
  unfold S196
  obtain ⟨L, hL, Y⟩ : ∃ L, L = rgL b D nA nL nC eA eL eC mA ps.length mC ps ∧ Sy h (owns [Ck.rg b bs D]) h L := ⟨_, rfl, Y⟩
  refine ⟨fun lz h' => ∃ k : Nat, lz = [.int .i64 k] ∧ k ≤ ps.length ∧ h' = h ∧ ∀ (j : Nat) m, j < k → D.marks[j]? = some m → m.1 ≠ n, mI (ps.length : Int), ⟨0, rfl, Nat.zero_le _, rfl, fun j m hj => by omega⟩, ?_⟩
  rintro i hv ⟨k, e, hk, rfl, hno⟩
  cases e
  subst hL
  have Y : Sy hv _ hv [_, _, _, _, _] := Y
  refine ⟨b, 0, rfl, _, _, _, Y.cellO 0 rfl 4 rfl, cnd_dec (fun c => ?_) fun c => ?_⟩
  · obtain ⟨mb, hb, _, p, hpp⟩ := Y.atS 3 rfl (show (0 : Int) ≤ (k : Int) by omega) c
    refine ⟨b, 0, rfl, _, _, _, Y.cellO 0 rfl 4 rfl, mb, 0, hb, by omega, c, p.2.1, Y.cellS 3 rfl hb (t := 0) hpp rfl, ?_⟩
    rw [Int.toNat_natCast] at hpp
    have hmk : D.marks[k]? = some p.2 := by rw [← q, List.getElem?_map, hpp]; rfl
    refine cnd_eq (fun c2 => ?_) fun c2 => ?_
    · refine ⟨b, 0, rfl, _, _, _, Y.cellO 0 rfl 4 rfl, mb, 0, hb, by omega, c, _, _, _, Y.cellS 3 rfl hb (t := 1) hpp rfl, _, _, _, Y.cellS 3 rfl hb (t := 2) hpp rfl, _, Y.cellS 3 rfl hb (t := 3) hpp rfl, _, Y.cellS 3 rfl hb (t := 4) hpp rfl, ?_⟩
      have hfm := hf _ (List.mem_of_getElem? hmk)
      have cc : Ok220 p.2.2.ns p.2.2.es p.2.2.nn p.2.2.ne (fun a b c d => a = p.2.2.ns ∧ b = p.2.2.es ∧ c = p.2.2.nn ∧ d = p.2.2.ne) := okV220 (s := p.2.2) ⟨Nat.le_trans hfm.1 (by decide), Nat.le_trans hfm.2 (by decide)⟩ ⟨rfl, rfl, rfl, rfl⟩
      refine callX_sy (cc hv _ _ _ _ _ _ (Y.viewM 4 rfl (List.mem_of_getElem? hpp))) (fun _ _ ⟨_, _, _, _, _, _, _, _, _, _, p, _⟩ => p.fr) alln ?_
      rintro _ hv2 ⟨rA, rL, rC, ns, rA2, rL2, rC2, es, nn, ne, P, rfl, rfl, rfl, rfl, rfl⟩
      have Y : Sy _ _ hv2 [_, _, _, _, _, _, _] := Y.callV P ⟨rfl, rfl, trivial⟩
      refine ⟨_, _, _, _, _, _, _, _, rfl, b, 0, rfl, ⟨_, Y.cellO 0 rfl 0 rfl⟩, Y.freeO 0 rfl _, ⟨_, Y.cellO 0 rfl 1 rfl⟩, Y.freeO 0 rfl _, ⟨_, Y.cellO 0 rfl 2 rfl⟩, Y.freeO 0 rfl _, ⟨_, Y.cellO 0 rfl 3 rfl⟩, Y.freeO 0 rfl _, ?_⟩
      intro hv3
      have Y : Sy _ _ hv3 [_, _, _, _, _, _, _] := (((Y.stO 0 rfl 0 _).stO 0 rfl 1 _).stO 0 rfl 2 _).stO 0 rfl 3 _
      clear_value hv3
      have cp := Y.capS 3 rfl
      have hw : IntKind.i64.wrap ((k : Int) + 1) = (k : Int) + 1 := wr (by omega) (by omega)
      refine ⟨b, 0, rfl, _, _, _, Y.cellO 0 rfl 4 rfl, by rw [hw]; omega, by rw [hw]; omega, b, 0, rfl, ⟨_, Y.cellO 0 rfl 4 rfl⟩, Y.freeO 0 rfl _, ?_⟩
      intro hv4
      have Y1 := Y.stO 0 rfl 4 (.slice (if mC = 0 then mA else Option.map (fun addr => Addr.add addr (0 * 5)) mA) ((Int.toNat (IntKind.i64.wrap ((k : Int) + (1 : Int)))) - 0) (mC - 0))
      have Y : Sy _ _ hv4 [_, _, _, _, _, _, _] := Y1
      have et : (IntKind.i64.wrap ((k : Int) + 1)).toNat - 0 = k + 1 := by rw [hw]; omega
      rw [slice0, et] at Y
      have Y : Sy _ _ hv4 [_, _, _, _, _, _, _] := Y.shrS 3 rfl (k + 1) (by omega)
      have Y : Sy _ _ hv4 [_, _, _, _, _, _, _] := Y.turn 4 rfl (To.stsTake (k + 1))
      refine ⟨_, D.backD k p.2.2, _, Sy.packD (D.backD k p.2.2) (by simp [RG.backD, ← q]) (B := []) (Y.pick [0, 5, 6, 3, 4] rfl), rfl, k1 k p.2.2 ?_ hno⟩
      rw [hmk, ← c2]
    · have hw : IntKind.i64.wrap ((k : Int) + 1) = ((k + 1 : Nat) : Int) := by rw [wr (by omega) (by omega)]; rfl
      rw [hw]
      refine ⟨⟨k + 1, rfl, by omega, rfl, fun j m hj hjm => ?_⟩, by simp only [mI]; omega⟩
      by_cases qj : j = k
      · subst qj; rw [hmk] at hjm; obtain rfl := Option.some.inj hjm; exact c2
      · exact hno j m (by omega) hjm
  · refine ⟨_, D, _, Y0, rfl, k0 fun m hmem => ?_⟩
    obtain ⟨j, hj, rfl⟩ := List.getElem_of_mem hmem
    exact hno j _ (by omega) (List.getElem?_eq_getElem hj)
end
end Go.Proofs.Ytmcloipjlihhlaa.N
