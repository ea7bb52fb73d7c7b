/- Package traceryref12: degrees, branch nodes, half-edges by node, ways; which edges may be chosen, and the error if not. Conditions: none. -/
import Derived.Test.YtmcloipjlihhlaaNKuraM3
import Derived.Test.YtmcloipjlihhlaaTKuraA
import Derived.Test.YtmcloipjlihhlaaNTwin
set_option linter.unusedSimpArgs false
set_option linter.unusedVariables false
namespace Go.Proofs.Ytmcloipjlihhlaa.N
open Go.X Go.Proofs.Ytmcloipjlihhlaa
set_option maxRecDepth 100000

def FirstBad (l : List Int) (n e : Int) : Prop := ∃ (i : Nat) (x : Int), l[i]? = some x ∧ ChosenK n (l.take i) ∧ ((¬(0 ≤ x ∧ x < n) ∧ e = 2) ∨ ((0 ≤ x ∧ x < n) ∧ x ∈ l.take i ∧ e = 18))
theorem chK_take {n : Int} {l : List Int} {i j : Nat} (c : ChosenK n (l.take j)) (h : i ≤ j) : ChosenK n (l.take i) := by
  have e : l.take i = (l.take j).take i := by rw [List.take_take, Nat.min_eq_left h]
  rw [e]
  exact ⟨fun x hx => c.1 x (List.mem_of_mem_take hx), c.2.sublist (List.take_sublist _ _)⟩
theorem chK_step {n : Int} {l : List Int} {i : Nat} {x : Int} (h : l[i]? = some x) : ChosenK n (l.take (i + 1)) ↔ ChosenK n (l.take i) ∧ (0 ≤ x ∧ x < n) ∧ x ∉ l.take i := by
  have e : l.take (i + 1) = l.take i ++ [x] := by rw [List.take_add_one, h]; rfl
  rw [e]
  unfold ChosenK
  rw [List.nodup_append]
  constructor
  · rintro ⟨h1, h2, _, h3⟩
    exact ⟨⟨fun y hy => h1 y (by simp [hy]), h2⟩, h1 x (by simp), fun q => h3 x q x (by simp) rfl⟩
  · rintro ⟨⟨h1, h2⟩, h3, h4⟩
    refine ⟨fun y hy => ?_, h2, by simp, fun a ha b hb e' => ?_⟩
    · rcases List.mem_append.1 hy with hy | hy
      · exact h1 y hy
      · rcases List.mem_singleton.1 hy with rfl; exact h3
    · rcases List.mem_singleton.1 hb with rfl; exact h4 (e' ▸ ha)
theorem FirstBad.not {l : List Int} {n e : Int} (h : FirstBad l n e) : ¬ ChosenK n l := by
  obtain ⟨i, x, hi, _, h⟩ := h
  intro c
  have c' := (chK_step hi).1 (chK_take (j := l.length) (by rw [List.take_length]; exact c) (List.getElem?_eq_some_iff.1 hi).1)
  rcases h with ⟨h, _⟩ | ⟨_, h, _⟩
  · exact h c'.2.1
  · exact c'.2.2 h
theorem FirstBad.ne {l : List Int} {n e : Int} (h : FirstBad l n e) : e ≠ 0 := by
  obtain ⟨i, x, hi, _, h⟩ := h
  rcases h with ⟨_, rfl⟩ | ⟨_, _, rfl⟩ <;> decide
theorem FirstBad.uniq {l : List Int} {n e e' : Int} (h : FirstBad l n e) (h' : FirstBad l n e') : e = e' := by
  obtain ⟨i, x, hi, ci, h⟩ := h
  obtain ⟨j, y, hj, cj, h'⟩ := h'
  have bad : ∀ {i j : Nat} {x : Int} {e : Int}, l[i]? = some x → ChosenK n (l.take j) → ((¬(0 ≤ x ∧ x < n) ∧ e = 2) ∨ ((0 ≤ x ∧ x < n) ∧ x ∈ l.take i ∧ e = 18)) → ¬ i < j := fun hi cj h q => by
    have c' := (chK_step hi).1 (chK_take cj q)
    rcases h with ⟨h, _⟩ | ⟨_, h, _⟩
    · exact h c'.2.1
    · exact c'.2.2 h
  have e1 := bad hi cj h
  have e2 := bad hj ci h'
  obtain rfl : i = j := by omega
  obtain rfl : x = y := Option.some.inj (hi.symm.trans hj)
  rcases h with ⟨h, rfl⟩ | ⟨h, _, rfl⟩ <;> rcases h' with ⟨h', rfl⟩ | ⟨h', _, rfl⟩
  · rfl
  · exact absurd h' h
  · exact absurd h h'
  · rfl
theorem okChosenE {l : List Int} {n : Int} {R : Int → Prop} (hl : l.length ≤ 1000000) (n0 : 0 ≤ n) (n1 : n ≤ 1000000) (bad : ∀ e, FirstBad l n e → R e) (good : ChosenK n l → R 0) : Ok223 l n R := by
  apply ok223
  unfold T223
  refine ⟨n0, by omega, fun x s => ∃ k : Nat, x = k ∧ k ≤ l.length ∧ s.length = n.toNat ∧ ChosenK n (l.take k) ∧ ∀ i : Nat, s.getD i false = true ↔ (i : Int) ∈ l.take k, fun x _ => ((l.length : Int) - x).toNat, ⟨0, rfl, Nat.zero_le _, by simp, ⟨by simp, by simp⟩, fun i => by simp [List.getD_eq_getElem?_getD, List.getElem?_replicate]; split <;> simp⟩, ?_⟩
  rintro _ s ⟨k, rfl, hk, hs, ck, hm⟩
  refine cnd_dec (fun hlt => ⟨by omega, hlt, fun x hx => ?_⟩) fun hlt => ?_
  · rw [Int.toNat_natCast] at hx
    refine cnd_dec (fun q => bad _ ⟨k, x, hx, ck, .inl ⟨by omega, rfl⟩⟩) fun q1 => cnd_dec (fun q => bad _ ⟨k, x, hx, ck, .inl ⟨by omega, rfl⟩⟩) fun q2 => ⟨by omega, by omega, fun y hy => ?_⟩
    have hy' : s.getD x.toNat false = y := by simp [List.getD_eq_getElem?_getD, hy]
    have hmx := hm x.toNat
    rw [hy', Int.toNat_of_nonneg (by omega)] at hmx
    refine cnd_b' (fun q => bad _ ⟨k, x, hx, ck, .inr ⟨by omega, hmx.1 q, rfl⟩⟩) fun q => ?_
    have hnm : x ∉ l.take k := fun z => by rw [hmx.2 z] at q; cases q
    have etk : l.take (k + 1) = l.take k ++ [x] := by rw [List.take_add_one, hx]; rfl
    rw [wr (by omega) (by omega)]
    refine ⟨⟨k + 1, by simp, by omega, by simpa using hs, (chK_step hx).2 ⟨ck, by omega, hnm⟩, fun i => ?_⟩, by dsimp only; omega⟩
    rw [etk, List.mem_append, List.mem_singleton, ← hm i]
    by_cases e : i = x.toNat
    · subst e
      rw [List.getD_eq_getElem?_getD, List.getElem?_set_self (by omega), Int.toNat_of_nonneg (by omega)]
      simp
    · rw [List.getD_eq_getElem?_getD, List.getElem?_set_ne (fun z => e z.symm), ← List.getD_eq_getElem?_getD]
      constructor
      · exact fun z => .inl z
      · rintro (z | z)
        · exact z
        · omega
  · have hkl : l.take k = l := List.take_of_length_le (by omega)
    rw [hkl] at ck
    exact good ck
theorem okChosenRE {l : List Int} {n : Int} {R : Int → Prop} (hl : l.length ≤ 1000000) (bad : ∀ e, FirstBad l n e → R e) (good : ChosenK n l → R 0) : Ok150 l n R := by
  apply ok150
  unfold T150
  refine ⟨fun x => ∃ k : Nat, x = k ∧ k ≤ l.length ∧ ChosenK n (l.take k), fun x => ((l.length : Int) - x).toNat, ⟨0, rfl, Nat.zero_le _, ⟨by simp, by simp⟩⟩, ?_⟩
  rintro _ ⟨k, rfl, hk, ck⟩
  refine cnd_dec (fun hlt => ⟨by omega, hlt, fun x hx => ?_⟩) fun hlt => ?_
  · rw [Int.toNat_natCast] at hx
    refine cnd_dec (fun q => bad _ ⟨k, x, hx, ck, .inl ⟨by omega, rfl⟩⟩) fun q1 => cnd_dec (fun q => bad _ ⟨k, x, hx, ck, .inl ⟨by omega, rfl⟩⟩) fun q2 => ?_
    refine ⟨fun y => ∃ j : Nat, y = j ∧ j ≤ k ∧ x ∉ l.take j, fun y => ((k : Int) - y).toNat, ⟨0, rfl, Nat.zero_le _, by simp⟩, ?_⟩
    rintro _ ⟨j, rfl, hj, nj⟩
    refine cnd_dec (fun hlt2 => ⟨by omega, by omega, fun y hy => ⟨by omega, by omega, fun z hz => ?_⟩⟩) fun hlt2 => ?_
    · rw [Int.toNat_natCast] at hy hz
      obtain rfl : x = z := Option.some.inj (hx.symm.trans hz)
      have hjk : j < k := by omega
      have hm : y ∈ l.take k := List.mem_of_getElem? (i := j) (by rw [List.getElem?_take_of_lt hjk]; exact hy)
      refine cnd_eq (fun q => bad _ ⟨k, x, hx, ck, .inr ⟨by omega, q ▸ hm, rfl⟩⟩) fun q => ?_
      rw [wr (by omega) (by omega)]
      refine ⟨⟨j + 1, by simp, by omega, ?_⟩, by dsimp only; omega⟩
      rw [List.take_add_one, hy]
      simp only [Option.toList_some, List.mem_append, List.mem_singleton]
      rintro (w | w)
      · exact nj w
      · exact q w.symm
    · have e : j = k := by omega
      subst e
      rw [wr (by omega) (by omega)]
      exact ⟨⟨j + 1, by simp, by omega, (chK_step hx).2 ⟨ck, by omega, nj⟩⟩, by dsimp only; omega⟩
  · have hkl : l.take k = l := List.take_of_length_le (by omega)
    rw [hkl] at ck
    exact good ck
theorem okMay12 {g : Int} {es : Es} {l : List Int} {R : Int → Prop} (hl : l.length ≤ 1000000) (b0 : mayB g es = false → R 1) (bad : mayB g es = true → ∀ e, FirstBad l es.length e → R e) (good : mayB g es = true → ChosenK es.length l → R 0) : Ok60 g es l R := by
  apply ok60
  unfold T60
  refine okMayR (cnd_not (fun q => b0 q) fun q => okChosenRE hl (bad q) (good q))
theorem okFaultyE {g : Int} {es : Es} {l : List Int} {R : Int → Prop} (hl : l.length ≤ 1000000) (b0 : mayB g es = false → R 1) (bad : mayB g es = true → ∀ e, FirstBad l es.length e → R e) (good : mayB g es = true → ChosenK es.length l → R 0) : Ok156 g es l R := by
  apply ok156
  unfold T156
  refine okMay (cnd_not (fun q => b0 q) fun q0 => ?_)
  apply ok206
  unfold T206
  refine okMay (cnd_not (fun q => b0 q) fun q => ?_)
  have m := mayN q
  have mm := m.m
  refine okChosenE hl (by omega) (by omega) (fun e f => cnd_ne (fun _ => bad q e f) fun z => absurd z f.ne) fun c => cnd_ne (fun z => absurd rfl z) fun _ => ?_
  refine ⟨fun i a b => ∃ k : Nat, i = k ∧ k ≤ l.length ∧ b.length = k, fun i _ _ => ((l.length : Int) - i).toNat, ⟨0, rfl, Nat.zero_le _, rfl⟩, ?_⟩
  rintro _ _ _ ⟨k, rfl, hk, hb⟩
  refine cnd_dec (fun hlt => ⟨by omega, hlt, fun x hx => ?_⟩) fun hlt => good q c
  rw [Int.toNat_natCast] at hx
  have hxr := c.1 x (List.mem_of_getElem? hx)
  refine ⟨hxr.1, hxr.2, fun y hy => ⟨by omega, ?_⟩⟩
  rw [wr (by omega) (by omega)]
  exact ⟨⟨k + 1, by simp, by omega, by simp [hb]⟩, by dsimp only; omega⟩
theorem okListsZ {a : List (List Int)} {R : Bool → Prop} (hl : a.length ≤ 1000000) (hr : ∀ x ∈ a, x.length ≤ 1000000) (h : R true) : Ok69 a a R := by
  apply ok69
  unfold T69
  refine cnd_ne (fun q => absurd rfl q) fun _ => ⟨fun i => ∃ k : Nat, i = k ∧ k ≤ a.length, fun i => ((a.length : Int) - i).toNat, ⟨0, rfl, Nat.zero_le _⟩, ?_⟩
  rintro _ ⟨i, rfl, hi⟩
  refine cnd_dec (fun hlt => ⟨by omega, hlt, fun x hx => ⟨by omega, hlt, fun y hy => ?_⟩⟩) fun _ => h
  rw [hx] at hy
  obtain rfl := Option.some.inj hy
  have hxl := hr x (List.mem_of_getElem? hx)
  rw [wr (x := (i : Int) + 1) (by omega) (by omega)]
  apply ok68
  unfold T68
  refine cnd_ne (fun q => absurd rfl q) fun _ => ⟨fun i => ∃ k : Nat, i = k ∧ k ≤ x.length, fun i => ((x.length : Int) - i).toNat, ⟨0, rfl, Nat.zero_le _⟩, ?_⟩
  rintro _ ⟨j, rfl, hj⟩
  refine cnd_dec (fun hlt => ⟨by omega, hlt, fun z hz => ⟨by omega, hlt, fun w hw => ?_⟩⟩) fun _ => cnd_not (fun q => by cases q) fun _ => ⟨⟨i + 1, by simp, by omega⟩, by dsimp only; omega⟩
  rw [hz] at hw
  obtain rfl := Option.some.inj hw
  rw [wr (by omega) (by omega)]
  exact cnd_ne (fun q => absurd rfl q) fun _ => ⟨⟨j + 1, by simp, by omega⟩, by dsimp only; omega⟩
section
variable {g : Int} {es : Es} {sel : List Int}
def degsK (g : Int) (es : Es) (sel : List Int) : List Int := (outsF g es sel).map fun l => (l.length : Int)
theorem degs_len : (degsK g es sel).length = g.toNat := by simp [degsK, outsF_len]
theorem degs_get {v : Int} (h0 : 0 ≤ v) (h1 : v < g) : (degsK g es sel)[v.toNat]? = some ((outF es sel v).length : Int) := by
  unfold degsK; rw [List.getElem?_map, outsF_get h0 h1]; rfl
theorem degs_eq (g : Int) (es : Es) (sel : List Int) : degsK g es sel = (List.range g.toNat).map fun v : Nat => ((outF es sel (v : Int)).length : Int) := by
  unfold degsK outsF; rw [List.map_map]; rfl
theorem map_setV {n : Nat} {i : Int} {f : Nat → Int} {y : Int} (h0 : 0 ≤ i) (hi : i < n) : ((List.range n).map f).set i.toNat y = (List.range n).map fun v : Nat => if i = (v : Int) then y else f v := by
  apply List.ext_getElem?
  intro j
  rw [List.getElem?_set, List.length_map, List.length_range, List.getElem?_map, List.getElem?_map]
  by_cases h : i.toNat = j
  · subst h
    rw [if_pos rfl, if_pos (by omega), List.getElem?_range (by omega)]
    simp; omega
  · rw [if_neg h]
    by_cases hj : j < n
    · rw [List.getElem?_range hj]
      simp only [Option.map_some]
      rw [if_neg (by omega)]
    · rw [List.getElem?_eq_none (by simpa using hj)]; rfl
theorem okDegR {R : List Int → Prop} (m : MayN g es) (c : ChosenK (es.length : Int) sel) (hs : sel.length ≤ 1000000) (z : R (degsK g es sel)) : Ok151 g es sel R := by
  have g0 := m.g0
  have g1 := m.g1
  have mm := m.m
  apply ok151
  unfold T151
  refine ⟨g0, by omega, fun x y => ∃ n : Nat, x = n ∧ n ≤ sel.length ∧ y = degsK g es (sel.take n), fun x _ => ((sel.length : Int) - x).toNat, ⟨0, rfl, Nat.zero_le _, ?_⟩, ?_⟩
  · rw [degs_eq]
    apply List.ext_getElem?
    intro i
    rw [List.getElem?_replicate, List.getElem?_map]
    by_cases q : i < g.toNat
    · rw [if_pos q, List.getElem?_range q]; rfl
    · rw [if_neg q, List.getElem?_eq_none (by simpa using q)]; rfl
  rintro _ _ ⟨n, rfl, hn, rfl⟩
  refine cnd_dec (fun hlt => ⟨by omega, hlt, fun e he => ?_⟩) fun hlt => ?_
  · rw [Int.toNat_natCast] at he
    have her := c.1 e (List.mem_of_getElem? he)
    refine ⟨her.1, her.2, fun q hq => ?_⟩
    have qr := m.e _ q hq
    have hqd : es.getD e.toNat (0, 0) = q := by simp [List.getD, hq]
    have hlen : ∀ v, (outF es (sel.take n) v).length ≤ 2 * sel.length := fun v => Nat.le_trans (outF_len _ _ _) (by rw [List.length_take]; omega)
    refine ⟨qr.1.1, by omega, fun x hx => ⟨qr.2.1, by omega, fun y hy => ?_⟩⟩
    rw [degs_get qr.1.1 qr.1.2] at hx
    obtain rfl := Option.some.inj hx
    have hl1 := hlen q.1
    have hl2 := hlen q.2
    rw [wr (x := ((outF es (sel.take n) q.1).length : Int) + 1) (by omega) (by omega)] at hy ⊢
    rw [wr (x := (n : Int) + 1) (by omega) (by omega)]
    rw [degs_eq, map_setV qr.1.1 (by omega), List.getElem?_map, List.getElem?_range (by omega)] at hy
    have ev : ((q.2.toNat : Nat) : Int) = q.2 := Int.toNat_of_nonneg qr.2.1
    have hy2 : (if q.1 = ((q.2.toNat : Nat) : Int) then ((outF es (sel.take n) q.1).length : Int) + 1 else ((outF es (sel.take n) ((q.2.toNat : Nat) : Int)).length : Int)) = y := Option.some.inj hy
    rw [ev] at hy2
    have hyb : 0 ≤ y ∧ y ≤ 4000000 := by
      rw [← hy2]
      split <;> omega
    rw [wr (x := y + 1) (by omega) (by omega)]
    subst hy2
    refine ⟨⟨n + 1, by simp, by omega, ?_⟩, by dsimp only; omega⟩
    rw [degs_eq, map_setV qr.1.1 (by omega), map_setV qr.2.1 (by omega), degs_eq]
    apply List.map_congr_left
    intro v _
    have e1 : outF es (sel.take (n + 1)) (v : Int) = outF es (sel.take n) (v : Int) ++ halfOf es e v := by rw [List.take_add_one, he]; exact outF_app _ _ _ _
    rw [e1, List.length_append]
    unfold halfOf
    rw [hqd]
    by_cases a1 : q.1 = (v : Int) <;> by_cases a2 : q.2 = (v : Int)
    · rw [if_pos a2, a1, a2]; simp; omega
    · rw [if_neg a2, if_pos a1]; simp [a1, a2]
    · rw [if_pos a2, if_neg (by omega), a2]; simp [a1]
    · rw [if_neg a2, if_neg a1]; simp [a1, a2]
  · have : sel.take n = sel := List.take_of_length_le (by omega)
    rw [this]; exact z
theorem okBranchR {R : List Int → Int → Prop} {outs : List (List Int)} (hn : outs.length ≤ 1000000) (bad : (¬ ∃ d b, BrOK outs d b) → R [] 0) (five : ∀ b, BrOK outs 4 b → R b 5) (three : ∀ b, BrOK outs 3 b → R b 33) : Ok152 (outs.map fun l => (l.length : Int)) R := by
  have hl : (outs.map fun l => (l.length : Int)).length = outs.length := by simp
  have get : ∀ {v : Nat} {x : Int}, (outs.map fun l => (l.length : Int))[v]? = some x → ∃ l, outs[v]? = some l ∧ x = l.length := by
    intro v x h
    rw [List.getElem?_map] at h
    cases e : outs[v]? with
    | none => rw [e] at h; cases h
    | some l => rw [e] at h; exact ⟨l, rfl, (Option.some.inj h).symm⟩
  apply ok152
  unfold T152
  refine ⟨fun w k v => ∃ n : Nat, v = n ∧ n ≤ outs.length ∧ ((w = 4 ∧ k = 5 ∧ ∀ (i : Nat) (l : List Int), i < n → outs[i]? = some l → l.length ≠ 3) ∨ (w = 3 ∧ k = 33 ∧ ∃ (i : Nat) (l : List Int), outs[i]? = some l ∧ l.length = 3)), fun _ _ v => ((outs.length : Int) - v).toNat, ⟨0, rfl, Nat.zero_le _, .inl ⟨rfl, rfl, fun i l h => by omega⟩⟩, ?_⟩
  rintro w k _ ⟨n, rfl, hn1, H⟩
  refine cnd_dec (fun hlt => ⟨by omega, hlt, fun x hx => ?_⟩) fun hlt => ?_
  · rw [Int.toNat_natCast] at hx
    obtain ⟨l, hlx, rfl⟩ := get hx
    rw [wr (by omega) (by omega)]
    refine ⟨fun w' k' => (w' = 4 ∧ k' = 5 ∧ ∀ (i : Nat) (l : List Int), i < n + 1 → outs[i]? = some l → l.length ≠ 3) ∨ (w' = 3 ∧ k' = 33 ∧ ∃ (i : Nat) (l : List Int), outs[i]? = some l ∧ l.length = 3), cnd_eq (fun q => .inr ⟨rfl, rfl, n, l, hlx, by omega⟩) fun q => ?_, fun w' k' H' => ⟨⟨n + 1, by simp, by omega, H'⟩, by dsimp only; omega⟩⟩
    rcases H with ⟨rfl, rfl, H⟩ | H
    · refine .inl ⟨rfl, rfl, fun i l' hi hl' => ?_⟩
      by_cases e : i = n
      · subst e
        obtain rfl := Option.some.inj (hlx.symm.trans hl')
        omega
      · exact H i l' (by omega) hl'
    · exact .inr H
  have hne : n = outs.length := by omega
  subst hne
  -- what chosen nodes there are
  have deg : ∀ {d : Int} {b : List Int}, BrOK outs d b → d = w := by
    intro d b z
    have hb : ∃ v ∈ b, True := by
      rcases z.shape with ⟨_, e⟩ | ⟨_, e⟩ <;> exact ⟨b[0]'(by omega), List.getElem_mem _, trivial⟩
    obtain ⟨v, hv, _⟩ := hb
    rw [z.eq] at hv
    unfold brL at hv
    obtain ⟨i, hi, rfl⟩ := List.mem_map.1 hv
    rw [List.mem_filter, List.mem_range] at hi
    have e := List.getElem?_eq_getElem hi.1
    rw [getD_of'' e] at hi
    have h1 := z.all i _ e hi.2
    rcases H with ⟨rfl, _, H⟩ | ⟨rfl, _, j, l, hj, h3⟩
    · have := H i _ hi.1 e
      rcases z.shape with ⟨e', _⟩ | ⟨e', _⟩ <;> omega
    · have := z.all j l hj (brP_iff.2 ⟨by omega, by omega⟩)
      omega
  refine ⟨fun l v => ∃ n : Nat, v = n ∧ n ≤ outs.length ∧ l = brL outs n ∧ ∀ (i : Nat) (x : List Int), i < n → outs[i]? = some x → brP x = true → (x.length : Int) = w, fun _ v => ((outs.length : Int) - v).toNat, ⟨0, rfl, Nat.zero_le _, rfl, fun i x h => by omega⟩, ?_⟩
  rintro _ _ ⟨n, rfl, hn2, rfl, A⟩
  refine cnd_dec (fun hlt2 => ⟨by omega, hlt2, fun x hx => ?_⟩) fun hlt2 => ?_
  · rw [Int.toNat_natCast] at hx
    obtain ⟨l, hlx, rfl⟩ := get hx
    rw [wr (by omega) (by omega)]
    have bl := brL_len outs n
    refine ⟨fun x => x = !brP l, cnd_eq (fun q => ?_) fun q => ?_, ?_⟩
    · unfold brP; simp [show l.length = 0 by omega]
    · show ((l.length : Int) == 2) = _
      unfold brP
      by_cases e : l.length = 2
      · simp [e]
      · have h2 : ((l.length : Int) == 2) = false := by rw [beq_eq_false_iff_ne]; omega
        rw [h2, decide_eq_true (show l.length ≠ 0 by omega), decide_eq_true e]; rfl
    rintro _ rfl
    refine cnd_b' (fun q => ?_) fun q => cnd_eq (fun q2 => ⟨by omega, ?_⟩) fun q2 => bad ?_
    · refine ⟨⟨n + 1, by simp, by omega, by rw [brL_succ hlx, if_neg (by simpa using q), List.append_nil], fun i x hi hx2 hp => ?_⟩, by dsimp only; omega⟩
      by_cases e : i = n
      · subst e
        obtain rfl := Option.some.inj (hlx.symm.trans hx2)
        rw [hp] at q; cases q
      · exact A i x (by omega) hx2 hp
    · refine ⟨⟨n + 1, by simp, by omega, by rw [brL_succ hlx, if_pos (by simpa using q)], fun i x hi hx2 hp => ?_⟩, by dsimp only; omega⟩
      by_cases e : i = n
      · subst e
        obtain rfl := Option.some.inj (hlx.symm.trans hx2)
        exact q2
      · exact A i x (by omega) hx2 hp
    · rintro ⟨d, b, z⟩
      have := z.all n l hlx (by simpa using q)
      have := deg z
      omega
  have hne : n = outs.length := by omega
  subst hne
  have all : ∀ (v : Nat) (l : List Int), outs[v]? = some l → brP l = true → (l.length : Int) = w := fun v l hv hp => A v l (List.getElem?_eq_some_iff.1 hv).1 hv hp
  have no : (¬ ((w = 4 ∧ (brL outs outs.length).length = 5) ∨ (w = 3 ∧ (brL outs outs.length).length = 6))) → R [] 0 := fun q => bad fun ⟨d, b, z⟩ => q (by
    have e := deg z
    subst e
    have := z.shape
    rw [z.eq] at this; exact this)
  rcases H with ⟨rfl, rfl, _⟩ | ⟨rfl, rfl, _⟩
  · refine ⟨(brL outs outs.length).length = 5, cnd_eq (fun _ => cnd_neK (fun q => no (by omega)) fun q => cnd_eq (fun z => absurd z (by decide)) fun _ => by omega) fun z => absurd rfl z, fun h5 => five _ ⟨.inl ⟨rfl, h5⟩, all, rfl⟩⟩
  · refine ⟨(brL outs outs.length).length = 6, cnd_eq (fun z => absurd z (by decide)) fun _ => cnd_eq (fun _ => cnd_neK (fun q => no (by omega)) fun q => by omega) fun z => absurd rfl z, fun h5 => three _ ⟨.inr ⟨rfl, h5⟩, all, rfl⟩⟩
end
end Go.Proofs.Ytmcloipjlihhlaa.N

/- Package traceryref12: half-edges by node, ways. Conditions: none. -/
set_option linter.unusedSimpArgs false
set_option linter.unusedVariables false
namespace Go.Proofs.Ytmcloipjlihhlaa.N
open Go.X Go.Proofs.Ytmcloipjlihhlaa
set_option maxRecDepth 100000

section
variable {g : Int} {es : Es} {sel : List Int}
def outR (es : Es) (sel : List Int) (v : Int) (n : Nat) : List Int := ((List.range n).filter fun h => decide (((h / 2 : Nat) : Int) ∈ sel) && decide (fromH es h = v)).map fun h : Nat => (h : Int)
def outsR (g : Int) (es : Es) (sel : List Int) (n : Nat) : List (List Int) := (List.range g.toNat).map fun v : Nat => outR es sel (v : Int) n
theorem outsR_len (n : Nat) : (outsR g es sel n).length = g.toNat := by simp [outsR]
theorem outsR_get {n : Nat} {v : Int} (h0 : 0 ≤ v) (h1 : v < g) : (outsR g es sel n)[v.toNat]? = some (outR es sel v n) := by
  unfold outsR
  rw [List.getElem?_map, List.getElem?_range (by omega)]
  simp [Int.toNat_of_nonneg h0]
theorem outR_succ (v : Int) (n : Nat) : outR es sel v (n + 1) = outR es sel v n ++ if ((n / 2 : Nat) : Int) ∈ sel ∧ fromH es n = v then [(n : Int)] else [] := by
  unfold outR
  rw [List.range_succ, List.filter_append, List.map_append]
  congr 1
  by_cases q : ((n / 2 : Nat) : Int) ∈ sel ∧ fromH es n = v
  · rw [if_pos q, List.filter_cons_of_pos (by simp only [Bool.and_eq_true, decide_eq_true_eq]; exact q)]; rfl
  · rw [if_neg q, List.filter_cons_of_neg (by simp only [Bool.and_eq_true, decide_eq_true_eq]; exact q)]; rfl
theorem outR_le (v : Int) (n : Nat) : (outR es sel v n).length ≤ n := by
  unfold outR
  rw [List.length_map]
  exact Nat.le_trans (List.length_filter_le _ _) (by simp)
theorem outR_perm (c : ChosenK (es.length : Int) sel) (v : Int) : (outR es sel v (2 * es.length)).Perm (outF es sel v) := by
  have nd : (outR es sel v (2 * es.length)).Nodup := by
    unfold outR
    refine List.Pairwise.map _ (fun a b hab e => hab (by omega)) (List.nodup_range.filter _)
  refine (List.perm_ext_iff_of_nodup nd (outF_nodup (chK c) c.2)).2 fun x => ?_
  rw [outF_mem (chK c)]
  unfold outR
  rw [List.mem_map]
  constructor
  · rintro ⟨n, hn, rfl⟩
    rw [List.mem_filter, Bool.and_eq_true, decide_eq_true_eq, decide_eq_true_eq] at hn
    exact ⟨n, rfl, hn.2.1, hn.2.2⟩
  · rintro ⟨n, rfl, h1, h2⟩
    have := (c.1 _ h1).2
    exact ⟨n, List.mem_filter.2 ⟨List.mem_range.2 (by omega), by simp only [Bool.and_eq_true, decide_eq_true_eq]; exact ⟨h1, h2⟩⟩, rfl⟩
theorem okHalvesR {R : List (List Int) → Prop} (m : MayN g es) (c : ChosenK (es.length : Int) sel) (hs : sel.length ≤ 1000000) (z : R (outsR g es sel (2 * es.length))) : Ok153 g es sel R := by
  have g0 := m.g0
  have g1 := m.g1
  have mm := m.m
  apply ok153
  unfold T153
  refine ⟨by omega, by omega, fun x s => ∃ k : Nat, x = k ∧ k ≤ sel.length ∧ s.length = es.length ∧ ∀ i : Nat, s.getD i false = true ↔ (i : Int) ∈ sel.take k, fun x _ => ((sel.length : Int) - x).toNat, ⟨0, rfl, Nat.zero_le _, by simp, fun i => by simp [List.getD_eq_getElem?_getD, List.getElem?_replicate]; split <;> simp⟩, ?_⟩
  rintro _ s ⟨k, rfl, hk, sl, hm⟩
  refine cnd_dec (fun hlt => ⟨by omega, hlt, fun x hx => ?_⟩) fun hlt => ⟨g0, by omega, ?_⟩
  · rw [Int.toNat_natCast] at hx
    have xr := c.1 x (List.mem_of_getElem? hx)
    refine ⟨xr.1, by omega, ?_⟩
    rw [wr (by omega) (by omega)]
    refine ⟨⟨k + 1, by simp, by omega, by simpa using sl, fun i => ?_⟩, by dsimp only; omega⟩
    rw [List.take_add_one, hx]
    simp only [Option.toList_some, List.mem_append, List.mem_singleton]
    rw [← hm i]
    by_cases e : i = x.toNat
    · subst e
      rw [List.getD_eq_getElem?_getD, List.getElem?_set_self (by omega), Int.toNat_of_nonneg (by omega)]
      simp
    · rw [List.getD_eq_getElem?_getD, List.getElem?_set_ne (fun z => e z.symm), ← List.getD_eq_getElem?_getD]
      exact ⟨fun z => .inl z, fun z => z.elim id fun z => by omega⟩
  have hkl : sel.take k = sel := List.take_of_length_le (by omega)
  rw [hkl] at hm
  refine ⟨fun x y => ∃ n : Nat, x = n ∧ n ≤ 2 * es.length ∧ y = outsR g es sel n, fun x _ => (2 * (es.length : Int) - x).toNat, ⟨0, rfl, Nat.zero_le _, ?_⟩, ?_⟩
  · unfold outsR
    apply List.ext_getElem?
    intro i
    rw [List.getElem?_replicate, List.getElem?_map]
    by_cases q : i < g.toNat
    · rw [if_pos q, List.getElem?_range q]; rfl
    · rw [if_neg q, List.getElem?_eq_none (by simpa using q)]; rfl
  rintro _ _ ⟨n, rfl, hn, rfl⟩
  rw [wr (x := 2 * (es.length : Int)) (by omega) (by omega)]
  refine cnd_dec (fun hlt2 => ?_) fun hlt2 => ?_
  · have hn2 : n < 2 * es.length := by omega
    have fr := toH_in m (mate_lt hn2)
    rw [mate_to] at fr
    rw [half_div n (by omega), wr (x := (n : Int) + 1) (by omega) (by omega)]
    refine ⟨by decide, by omega, by omega, fun x hx => ?_⟩
    rw [Int.toNat_natCast] at hx
    have hx' : s.getD (n / 2) false = x := by simp [List.getD_eq_getElem?_getD, hx]
    have hmx := hm (n / 2)
    rw [hx'] at hmx
    refine ⟨fun y => y = outsR g es sel (n + 1), cnd_b' (fun q => ?_) fun q => ?_, fun y hy => ⟨⟨n + 1, by simp, by omega, hy⟩, by dsimp only; omega⟩⟩
    · have hi := hmx.1 q
      refine ⟨fun r l xi y => r = fromH es n ∧ l = outR es sel (fromH es n) n ++ [(n : Int)] ∧ xi = (fromH es n).toNat ∧ y = outsR g es sel n, okFrom hn2 (by omega) (okFrom hn2 (by omega) ⟨fr.1, by omega, fun l hl => ?_⟩), ?_⟩
      · rw [outsR_get fr.1 fr.2] at hl
        obtain rfl := Option.some.inj hl
        have := outR_le (es := es) (sel := sel) (fromH es n) n
        exact ⟨by omega, rfl, rfl, rfl, rfl⟩
      · rintro _ _ _ _ ⟨rfl, rfl, rfl, rfl⟩
        refine ⟨fr.1, by omega, rfl, ?_⟩
        unfold outsR
        have e : ((List.range g.toNat).map fun v : Nat => outR es sel (v : Int) n).set (fromH es n).toNat (outR es sel (((fromH es n).toNat : Nat) : Int) n ++ [(n : Int)]) = (List.range g.toNat).map fun v : Nat => outR es sel (v : Int) n ++ if (fromH es n).toNat = v then [(n : Int)] else [] := map_set (f := fun v : Nat => outR es sel (v : Int) n) (by omega)
        rw [Int.toNat_of_nonneg fr.1] at e
        rw [e]
        apply List.map_congr_left
        intro v _
        rw [outR_succ]
        congr 1
        by_cases e : fromH es n = (v : Int)
        · rw [if_pos (by omega), if_pos ⟨hi, e⟩]
        · rw [if_neg (by omega), if_neg fun z => e z.2]
    · unfold outsR
      apply List.map_congr_left
      intro v _
      rw [outR_succ, if_neg fun z => ?_, List.append_nil]
      have := hmx.2 z.1
      rw [q] at this; cases this
  · have e : n = 2 * es.length := by omega
    subst e; exact z
theorem okTwinH {h : Nat} {R : Int → Prop} (hh : h ≤ 10000000) (z : R ((mate h : Nat) : Int)) : Ok205 h R := by
  apply ok205
  unfold T205
  rw [half_mod, wr (x := (h : Int) + 1) (by omega) (by omega), wr (x := (h : Int) - 1) (by omega) (by omega)]
  unfold mate at z
  refine ⟨by decide, cnd_eq (fun q => ?_) fun q => ?_⟩
  · rw [if_pos (by omega)] at z
    rw [show (h : Int) + 1 = ((h + 1 : Nat) : Int) by simp]; exact z
  · rw [if_neg (by omega)] at z
    rw [show (h : Int) - 1 = ((h - 1 : Nat) : Int) by omega]; exact z
theorem okFollowR {R : List Int → Prop} (m : MayN g es) (c : ChosenK (es.length : Int) sel) {h : Nat} (st : StartH es sel h) (z : R (folF es (outsF g es sel) h)) : Ok154 g es (outsR g es sel (2 * es.length)) (degsK g es sel) h R := by
  obtain ⟨J, h1, h2, h3, h4⟩ := folF_way m c st.i st.d
  have mm := m.m
  have g1 := m.g1
  apply ok154
  unfold T154
  refine ⟨fun l => l = folF es (outsF g es sel) h, ⟨fun x l => ∃ j : Nat, x = ((itH es (outsF g es sel) h j : Nat) : Int) ∧ l = wayL es (outsF g es sel) h j ∧ j ≤ J, fun _ l => 2 * es.length + 2 - l.length, ⟨0, rfl, rfl, Nat.zero_le _⟩, ?_⟩, fun l hl => by rw [hl]; exact z⟩
  rintro _ _ ⟨j, rfl, rfl, hj⟩
  have ij := itH_in m c st.i j fun i hi => h2 i (by omega)
  have tj := toH_in m ij.1
  have wl := wayL_len es (outsF g es sel) h j
  refine okTo ij.1 (by omega) ⟨tj.1, by rw [degs_len]; omega, fun d hd => ?_⟩
  rw [degs_get tj.1 tj.2] at hd
  obtain rfl := Option.some.inj hd
  have es' : stopH es (outsF g es sel) (itH es (outsF g es sel) h j) ↔ (outF es sel (toH es (itH es (outsF g es sel) h j))).length ≠ 2 := by
    unfold stopH; rw [outsAt m c ij]
  by_cases q : j = J
  · subst q
    have := es'.1 h3
    exact cnd_eq (fun q => by omega) fun _ => h4.symm
  · have ns := h2 j (by omega)
    have hl2 : (outF es sel (toH es (itH es (outsF g es sel) h j))).length = 2 := by
      rw [es'] at ns; exact Decidable.not_not.1 ns
    have we := way_edges m c st.i st.d (n := j + 1) fun i hi => h2 i (by omega)
    obtain ⟨a1, a2, a3, a4⟩ := two_ways m c ij ns
    refine cnd_eq (fun _ => cnd_dec (fun _ => ?_) fun w => by omega) fun w => by omega
    refine okTo ij.1 (by omega) ⟨tj.1, by rw [outsR_len]; omega, fun l hl => ?_⟩
    rw [outsR_get tj.1 tj.2] at hl
    obtain rfl := Option.some.inj hl
    have pm := outR_perm c (toH es (itH es (outsF g es sel) h j))
    have pl := pm.length_eq
    refine ⟨by omega, by omega, fun x hx => okTwinH (by have := ij.1; omega) ⟨fun y => y = ((nxt es (outsF g es sel) (itH es (outsF g es sel) h j) : Nat) : Int), ?_, ?_⟩⟩
    · match hO : outR es sel (toH es (itH es (outsF g es sel) h j)) (2 * es.length), pl with
      | [p, r], _ =>
        rw [hO] at hx pm
        obtain rfl : p = x := Option.some.inj hx
        have mp : p ∈ outF es sel (toH es (itH es (outsF g es sel) h j)) := pm.mem_iff.1 (by simp)
        have mr : r ∈ outF es sel (toH es (itH es (outsF g es sel) h j)) := pm.mem_iff.1 (by simp)
        have mm' : ((mate (itH es (outsF g es sel) h j) : Nat) : Int) ∈ [p, r] := pm.mem_iff.2 (by rcases a4 with a4 | a4 <;> rw [a4] <;> simp)
        have mn : ((nxt es (outsF g es sel) (itH es (outsF g es sel) h j) : Nat) : Int) ∈ [p, r] := pm.mem_iff.2 (by rcases a4 with a4 | a4 <;> rw [a4] <;> simp)
        simp only [List.mem_cons, List.not_mem_nil, or_false] at mm' mn
        refine cnd_eq (fun e => ⟨by omega, by simp, fun y hy => ?_⟩) fun e => ?_
        · obtain rfl : r = y := Option.some.inj hy
          omega
        · show p = _
          omega
      | [], e => rw [hl2] at e; simp at e
      | [_], e => rw [hl2] at e; simp at e
      | _ :: _ :: _ :: _, e => rw [hl2] at e; simp at e
    · rintro _ rfl
      refine ⟨by omega, ⟨j + 1, rfl, (wayL_succ _ _ _ _).symm, by omega⟩, ?_⟩
      dsimp only
      rw [List.length_append, wl, List.length_singleton]; omega
end
end Go.Proofs.Ytmcloipjlihhlaa.N
