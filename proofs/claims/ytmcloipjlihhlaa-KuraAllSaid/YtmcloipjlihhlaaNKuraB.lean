/- Package traceryref12: the table of ways, what it tells. Conditions: none. -/
import Derived.Test.YtmcloipjlihhlaaNKuraR2
import Derived.Test.YtmcloipjlihhlaaNKuraS
set_option linter.unusedSimpArgs false
set_option linter.unusedVariables false
namespace Go.Proofs.Ytmcloipjlihhlaa.N
open Go.X Go.Proofs.Ytmcloipjlihhlaa
set_option maxRecDepth 100000

section
variable {g d : Int} {es : Es} {sel b pr : List Int} {rs : List RowH} {xss : List (List Int)} {W : Nat → Nat → Option Nat} {used : Nat}
def prA (es : Es) (sel b : List Int) : List Int := b.flatMap fun v => outR es sel v (2 * es.length)
def prK (es : Es) (sel b : List Int) (i k : Nat) : List Int := prA es sel (b.take i) ++ (outR es sel (b.getD i 0) (2 * es.length)).take k
theorem prA_perm (c : ChosenK (es.length : Int) sel) : ∀ b : List Int, (prA es sel b).Perm (startsB es sel b)
  | [] => .refl _
  | v :: b => by
    have e1 : prA es sel (v :: b) = outR es sel v (2 * es.length) ++ prA es sel b := by simp [prA]
    have e2 : startsB es sel (v :: b) = outF es sel v ++ startsB es sel b := by simp [startsB]
    rw [e1, e2]
    exact (outR_perm c v).append (prA_perm c b)
theorem prK_zero (i : Nat) : prK es sel b i 0 = prA es sel (b.take i) := by simp [prK]
theorem prA_succ {i : Nat} {u : Int} (hi : b[i]? = some u) : prA es sel (b.take (i + 1)) = prA es sel (b.take i) ++ outR es sel u (2 * es.length) := by
  unfold prA; rw [List.take_add_one, hi, List.flatMap_append]; simp
theorem prK_all {i : Nat} {u : Int} (hi : b[i]? = some u) : prK es sel b i (outR es sel u (2 * es.length)).length = prK es sel b (i + 1) 0 := by
  rw [prK_zero, prA_succ hi]; unfold prK; rw [getD_of' hi, List.take_length]
theorem prK_step {i k : Nat} {u x : Int} (hi : b[i]? = some u) (hx : (outR es sel u (2 * es.length))[k]? = some x) : prK es sel b i (k + 1) = prK es sel b i k ++ [x] := by
  unfold prK; rw [getD_of' hi, take_step hx, List.append_assoc]
theorem prSub {i k : Nat} (hi : i < b.length ∨ k = 0) : (prK es sel b i k).Sublist (prA es sel b) := by
  by_cases q : i < b.length
  · have hb := List.getElem?_eq_getElem q
    have e : prA es sel b = prA es sel (b.take (i + 1)) ++ prA es sel (b.drop (i + 1)) := by
      unfold prA; rw [← List.flatMap_append, List.take_append_drop]
    rw [e, prA_succ hb, List.append_assoc]
    unfold prK
    rw [getD_of' hb]
    exact List.Sublist.append (List.Sublist.refl _) ((List.take_sublist _ _).trans (List.sublist_append_left _ _))
  · obtain rfl : k = 0 := by omega
    rw [prK_zero, List.take_of_length_le (by omega)]
    exact List.Sublist.refl _
theorem KOK.prIn (K : KOK g d es sel b) {i k : Nat} (hi : i < b.length ∨ k = 0) : (prK es sel b i k).Nodup ∧ ∀ x ∈ prK es sel b i k, x ∈ startsB es sel b := by
  have p := prA_perm K.c b
  have nd : (prA es sel b).Nodup := p.nodup_iff.2 K.sn
  exact ⟨nd.sublist (prSub hi), fun x hx => p.mem_iff.1 ((prSub hi).subset hx)⟩
/-- Which of the ways leads from the i-th to the j-th node. -/
structure WOK (g : Int) (es : Es) (sel b pr : List Int) (rs : List RowH) (xss : List (List Int)) (W : Nat → Nat → Option Nat) (used : Nat) : Prop where
  len : rs.length = pr.length
  xs : xss = pr.map fun x => folF es (outsF g es sel) x.toNat
  nn : ∀ (s : Nat) (r : RowH), rs[s]? = some r → r.a.isNone = false
  w : ∀ i j s : Nat, W i j = some s ↔ ∃ x u v, pr[s]? = some x ∧ b[i]? = some u ∧ b[j]? = some v ∧ frF es x = u ∧ enF g es sel x = v
  loop : ∀ x ∈ pr, enF g es sel x ≠ frF es x
  used : used = sm (usedF g es sel) pr
theorem WOK.nil : WOK g es sel b [] [] [] (fun _ _ => none) 0 := ⟨rfl, rfl, fun s r h => by simp at h, fun i j s => ⟨fun h => (by cases h), fun ⟨_, _, _, h, _⟩ => (by simp at h)⟩, fun x h => (by cases h), rfl⟩
def upd (W : Nat → Nat → Option Nat) (i j s : Nat) : Nat → Nat → Option Nat := fun i' j' => if i' = i ∧ j' = j then some s else W i' j'
theorem WOK.step (K : KOK g d es sel b) (H : WOK g es sel b pr rs xss W used) {x : Int} {i j : Nat} {r : RowH} (hi : b[i]? = some (frF es x)) (hj : b[j]? = some (enF g es sel x)) (hij : j ≠ i) (hW : W i j = none) (hr : r.a.isNone = false) :
    WOK g es sel b (pr ++ [x]) (rs ++ [r]) (xss ++ [folF es (outsF g es sel) x.toNat]) (upd W i j rs.length) (used + if i < j then lnF g es sel x else 0) := by
  have hne : enF g es sel x ≠ frF es x := fun e => by
    rw [e] at hj
    exact hij (nodup_inj K.nd hj hi)
  refine ⟨by simp [H.len], by rw [H.xs]; simp, fun s r' h => ?_, fun i' j' s => ?_, fun y hy => ?_, ?_⟩
  · rcases app_get h with ⟨_, rfl⟩ | ⟨_, h⟩
    · exact hr
    · exact H.nn s r' h
  · unfold upd
    have hl := H.len
    constructor
    · intro h
      split at h
      · rename_i q
        obtain ⟨rfl, rfl⟩ := q
        obtain rfl := Option.some.inj h
        exact ⟨x, _, _, by rw [hl]; simp, hi, hj, rfl, rfl⟩
      · obtain ⟨y, u, v, h1, h2⟩ := (H.w i' j' s).1 h
        exact ⟨y, u, v, by rw [List.getElem?_append_left (List.getElem?_eq_some_iff.1 h1).1]; exact h1, h2⟩
    · rintro ⟨y, u, v, h1, h2, h3, rfl, rfl⟩
      rcases app_get h1 with ⟨e1, rfl⟩ | ⟨_, h1⟩
      · have a1 : i' = i := nodup_inj K.nd h2 hi
        have a2 : j' = j := nodup_inj K.nd h3 hj
        rw [if_pos ⟨a1, a2⟩, e1, hl]
      · split
        · rename_i q
          obtain ⟨rfl, rfl⟩ := q
          rw [(H.w i' j' s).2 ⟨y, _, _, h1, h2, h3, rfl, rfl⟩] at hW; cases hW
        · exact (H.w i' j' s).2 ⟨y, _, _, h1, h2, h3, rfl, rfl⟩
  · rcases List.mem_append.1 hy with hy | hy
    · exact H.loop y hy
    · rcases List.mem_singleton.1 hy with rfl; exact hne
  · rw [H.used, sm_app]
    congr 1
    unfold sm usedF
    obtain ⟨hi1, hi2⟩ := List.getElem?_eq_some_iff.1 hi
    obtain ⟨hj1, hj2⟩ := List.getElem?_eq_some_iff.1 hj
    rcases Nat.lt_trichotomy i j with q | q | q
    · have := List.pairwise_iff_getElem.1 K.lt i j hi1 hj1 q
      rw [hi2, hj2] at this
      rw [if_pos q, if_pos this]; simp [sm]
    · omega
    · have := List.pairwise_iff_getElem.1 K.lt j i hj1 hi1 q
      rw [hi2, hj2] at this
      rw [if_neg (by omega), if_neg (by omega)]; simp [sm]
theorem vio_loop {x : Int} (hx : x ∈ startsB es sel b) (e : enF g es sel x = frF es x) : ¬ InjB g es sel b := fun I => I.loop x hx e
theorem WOK.vio (H : WOK g es sel b pr rs xss W used) (sub : ∀ x ∈ pr, x ∈ startsB es sel b) {x : Int} (hx : x ∈ startsB es sel b) (nx : x ∉ pr) {i j s : Nat} (hW : W i j = some s) (hi : b[i]? = some (frF es x)) (hj : b[j]? = some (enF g es sel x)) : ¬ InjB g es sel b := by
  intro I
  obtain ⟨y, u, v, h1, h2, h3, h4, h5⟩ := (H.w i j s).1 hW
  have hy := List.mem_of_getElem? h1
  have := I.one x hx y (sub y hy) (by rw [h4]; exact Option.some.inj (hi.symm.trans h2)) (by rw [h5]; exact Option.some.inj (hj.symm.trans h3))
  exact nx (this ▸ hy)
theorem KOK.noGood (K : KOK g d es sel b) (h : InjB g es sel b → sm (usedF g es sel) (startsB es sel b) = sel.length → False) : ¬ ∃ k b p, Good g es sel k b p := by
  rintro ⟨k, b', p, y⟩
  rcases good_ref K.m K.c y with ⟨_, K', I, u, _⟩ | ⟨_, B, K', I, u, _⟩
  · obtain ⟨_, rfl⟩ := K.z.uniq K'.z; exact h I u
  · obtain ⟨_, rfl⟩ := K.z.uniq K'.z; exact h I u
theorem WOK.perm (K : KOK g d es sel b) : (prK es sel b b.length 0).Perm (startsB es sel b) := by
  rw [prK_zero, List.take_length]; exact prA_perm K.c b
/-- All ways are in the table. -/
theorem WOK.inj (K : KOK g d es sel b) (H : WOK g es sel b (prK es sel b b.length 0) rs xss W used) : InjB g es sel b ∧ used = sm (usedF g es sel) (startsB es sel b) := by
  have p := WOK.perm K
  refine ⟨⟨fun x hx => H.loop x (p.mem_iff.2 hx), fun x hx y hy e1 e2 => ?_⟩, by rw [H.used, sm_perm p]⟩
  obtain ⟨s, hs⟩ := List.mem_iff_getElem?.1 (p.mem_iff.2 hx)
  obtain ⟨t, ht⟩ := List.mem_iff_getElem?.1 (p.mem_iff.2 hy)
  obtain ⟨i, hi⟩ := List.mem_iff_getElem?.1 (K.start hx).2.2
  obtain ⟨j, hj⟩ := List.mem_iff_getElem?.1 (K.en hx)
  have w1 := (H.w i j s).2 ⟨x, _, _, hs, hi, hj, rfl, rfl⟩
  have w2 := (H.w i j t).2 ⟨y, _, _, ht, hi, hj, e1.symm, e2.symm⟩
  obtain rfl : s = t := Option.some.inj (w1.symm.trans w2)
  exact Option.some.inj (hs.symm.trans ht)
theorem WOK.cnt (K : KOK g d es sel b) (H : WOK g es sel b (prK es sel b b.length 0) rs xss W used) {i j : Nat} {u v : Int} (hi : b[i]? = some u) (hj : b[j]? = some v) : W i j = none ↔ cntF g es sel b u v = 0 := by
  have p := WOK.perm K
  constructor
  · intro h
    by_cases q : 0 < cntF g es sel b u v
    · obtain ⟨x, hx, rfl, rfl⟩ := cnt_pos.1 q
      obtain ⟨s, hs⟩ := List.mem_iff_getElem?.1 (p.mem_iff.2 hx)
      rw [(H.w i j s).2 ⟨x, _, _, hs, hi, hj, rfl, rfl⟩] at h; cases h
    · omega
  · intro h
    cases e : W i j with
    | none => rfl
    | some s =>
      obtain ⟨x, u', v', h1, h2, h3, h4, h5⟩ := (H.w i j s).1 e
      have : 0 < cntF g es sel b u v := cnt_pos.2 ⟨x, p.mem_iff.1 (List.mem_of_getElem? h1), h4.trans (Option.some.inj (h2.symm.trans hi)), h5.trans (Option.some.inj (h3.symm.trans hj))⟩
      omega
theorem WOK.path (K : KOK g d es sel b) (H : WOK g es sel b (prK es sel b b.length 0) rs xss W used) {i j s : Nat} {u v : Int} (hi : b[i]? = some u) (hj : b[j]? = some v) (h : W i j = some s) : s < rs.length ∧ xss.getD s [] = pathOf g es sel b u v := by
  obtain ⟨x, u', v', h1, h2, h3, h4, h5⟩ := (H.w i j s).1 h
  obtain rfl := Option.some.inj (h2.symm.trans hi)
  obtain rfl := Option.some.inj (h3.symm.trans hj)
  refine ⟨by rw [H.len]; exact (List.getElem?_eq_some_iff.1 h1).1, ?_⟩
  rw [pathOf_eq (H.inj K).1 ((WOK.perm K).mem_iff.1 (List.mem_of_getElem? h1)) h4 h5, H.xs]
  exact getD_of'' (by rw [List.getElem?_map, h1]; rfl)
theorem WOK.inj2 (K : KOK g d es sel b) (H : WOK g es sel b pr rs xss W used) {i j i' j' s : Nat} (h : W i j = some s) (h' : W i' j' = some s) : i = i' ∧ j = j' := by
  obtain ⟨x, u, v, h1, h2, h3, h4, h5⟩ := (H.w i j s).1 h
  obtain ⟨y, u', v', g1, g2, g3, g4, g5⟩ := (H.w i' j' s).1 h'
  obtain rfl := Option.some.inj (h1.symm.trans g1)
  subst h4; subst h5; subst g4; subst g5
  exact ⟨nodup_inj K.nd h2 g2, nodup_inj K.nd h3 g3⟩
/-- The headers that stand in the table. -/
def hdr (rs : List RowH) : Option Nat → RowH
  | none => ⟨none, 0, 0⟩
  | some s => rs.getD s ⟨none, 0, 0⟩
def wayM (n made : Nat) (rs : List RowH) (W : Nat → Nat → Option Nat) : List (List RowH) := (List.range n).map fun i => if i < made then (List.range n).map fun j => hdr rs (W i j) else []
theorem WOK.hdrNone (H : WOK g es sel b pr rs xss W used) (i j : Nat) : (hdr rs (W i j)).a.isNone = (W i j).isNone := by
  cases e : W i j with
  | none => rfl
  | some s =>
    obtain ⟨x, u, v, h1, _⟩ := (H.w i j s).1 e
    have hs : s < rs.length := by rw [H.len]; exact (List.getElem?_eq_some_iff.1 h1).1
    exact H.nn s _ (getD_lt hs)
theorem WOK.lt (H : WOK g es sel b pr rs xss W used) {i j s : Nat} (h : W i j = some s) : s < rs.length ∧ i < b.length ∧ j < b.length := by
  obtain ⟨x, u, v, h1, h2, h3, _⟩ := (H.w i j s).1 h
  exact ⟨by rw [H.len]; exact (List.getElem?_eq_some_iff.1 h1).1, (List.getElem?_eq_some_iff.1 h2).1, (List.getElem?_eq_some_iff.1 h3).1⟩
theorem WOK.hdrApp (H : WOK g es sel b pr rs xss W used) (r : RowH) (i j : Nat) : hdr (rs ++ [r]) (W i j) = hdr rs (W i j) := by
  cases e : W i j with
  | none => rfl
  | some s =>
    have := (H.lt e).1
    unfold hdr
    simp only [List.getD_eq_getElem?_getD]
    rw [List.getElem?_append_left this]
theorem wayM_get {n made i : Nat} {x : List RowH} (h : (wayM n made rs W)[i]? = some x) : i < n ∧ x = if i < made then (List.range n).map fun j => hdr rs (W i j) else [] := by
  unfold wayM at h
  have hi : i < n := by
    have := (List.getElem?_eq_some_iff.1 h).1
    simpa using this
  rw [List.getElem?_map, List.getElem?_range hi] at h
  exact ⟨hi, (Option.some.inj h).symm⟩
theorem map_setX {β : Type} {n i : Nat} {f : Nat → β} {y : β} (hi : i < n) : ((List.range n).map f).set i y = (List.range n).map fun v => if v = i then y else f v := by
  apply List.ext_getElem?
  intro j
  rw [List.getElem?_set, List.length_map, List.length_range, List.getElem?_map, List.getElem?_map]
  by_cases h : i = j
  · subst h
    rw [if_pos rfl, if_pos hi, List.getElem?_range hi]; simp
  · rw [if_neg h]
    by_cases hj : j < n
    · rw [List.getElem?_range hj]; simp; omega
    · rw [List.getElem?_eq_none (by simpa using hj)]; rfl
theorem wayM_new {n i : Nat} (hi : i < n) (no : ∀ j, W i j = none) : (wayM n i rs W).set i (List.replicate n ⟨none, 0, 0⟩) = wayM n (i + 1) rs W := by
  unfold wayM
  rw [map_setX hi]
  apply List.map_congr_left
  intro v _
  by_cases e : v = i
  · subst e
    rw [if_pos rfl, if_pos (by omega)]
    apply List.ext_getElem?
    intro j
    rw [List.getElem?_replicate, List.getElem?_map]
    by_cases hj : j < n
    · rw [if_pos hj, List.getElem?_range hj, Option.map_some, no]; rfl
    · rw [if_neg hj, List.getElem?_eq_none (by simpa using hj)]; rfl
  · rw [if_neg e]
    by_cases q : v < i
    · rw [if_pos q, if_pos (by omega)]
    · rw [if_neg q, if_neg (by omega)]
theorem WOK.set (H : WOK g es sel b pr rs xss W used) {n i j : Nat} (r : RowH) (hi : i < n) (hj : j < n) : (wayM n (i + 1) rs W).set i (((List.range n).map fun j => hdr rs (W i j)).set j r) = wayM n (i + 1) (rs ++ [r]) (upd W i j rs.length) := by
  unfold wayM
  rw [map_setX hi, map_setX hj]
  apply List.map_congr_left
  intro v _
  by_cases e : v = i
  · subst e
    rw [if_pos rfl, if_pos (by omega)]
    apply List.map_congr_left
    intro k _
    unfold upd
    by_cases e : k = j
    · subst e
      rw [if_pos rfl, if_pos ⟨rfl, rfl⟩]
      show r = (rs ++ [r]).getD rs.length _
      simp [List.getD]
    · rw [if_neg e, if_neg (by simp [e]), H.hdrApp]
  · rw [if_neg e]
    by_cases q : v < i + 1
    · rw [if_pos q, if_pos q]
      apply List.map_congr_left
      intro k _
      unfold upd
      rw [if_neg (by simp [e]), H.hdrApp]
    · rw [if_neg q, if_neg q]
theorem wayM_zero (n : Nat) : wayM n 0 rs W = List.replicate n [] := by
  unfold wayM
  apply List.ext_getElem?
  intro i
  rw [List.getElem?_replicate, List.getElem?_map]
  by_cases hi : i < n
  · rw [if_pos hi, List.getElem?_range hi]; simp
  · rw [if_neg hi, List.getElem?_eq_none (by simpa using hi)]; rfl
theorem wayM_mat (n : Nat) : wayM n n rs W = matH n fun i j => hdr rs (W i j) := by
  unfold wayM matH
  apply List.map_congr_left
  intro i hi
  rw [if_pos (List.mem_range.1 hi)]
end
end Go.Proofs.Ytmcloipjlihhlaa.N

/- Package traceryref12, by hand over memory: the kind, the branch nodes, the paths. Conditions: none. -/
set_option linter.unusedSimpArgs false
set_option linter.unusedVariables false
namespace Go.Proofs.Ytmcloipjlihhlaa.N
open Go.X Go.Proofs.Ytmcloipjlihhlaa
set_option maxRecDepth 100000

def ijP (n i : Nat) : List (Nat × Nat) := (List.range i).flatMap fun a => (List.range' (a + 1) (n - (a + 1))).map fun j => (a, j)
def hsW (rs : List RowH) (W : Nat → Nat → Option Nat) (L : List (Nat × Nat)) : List RowH := L.map fun q => hdr rs (W q.1 q.2)
def ixW (W : Nat → Nat → Option Nat) (L : List (Nat × Nat)) : List Nat := L.map fun q => (W q.1 q.2).getD 0
theorem ijP_succ (n i : Nat) : ijP n (i + 1) = ijP n i ++ (List.range' (i + 1) (n - (i + 1))).map fun j => (i, j) := by
  unfold ijP; rw [List.range_succ, List.flatMap_append]; simp
theorem ijP_mem {n i : Nat} {q : Nat × Nat} (h : q ∈ ijP n i) : q.1 < i ∧ q.1 < q.2 ∧ q.2 < n := by
  obtain ⟨a, ha, h⟩ := List.mem_flatMap.1 h
  obtain ⟨j, hj, rfl⟩ := List.mem_map.1 h
  have := List.mem_range.1 ha
  have := List.mem_range'_1.1 hj
  refine ⟨this.1 |> fun _ => by omega, ?_, ?_⟩ <;> dsimp only <;> omega
theorem ijP_len (n i : Nat) (hn : n ≤ 6) (hi : i ≤ n) : (ijP n i).length ≤ i * 6 := by
  induction i with
  | zero => simp [ijP]
  | succ i ih =>
    have := ih (by omega)
    rw [ijP_succ, List.length_append, List.length_map, List.length_range', Nat.succ_mul]; omega
theorem ijP_nodup (n : Nat) : ∀ i, (ijP n i).Nodup
  | 0 => by simp [ijP]
  | i + 1 => by
    rw [ijP_succ]
    refine List.nodup_append.2 ⟨ijP_nodup n i, List.Pairwise.map _ (fun a b hab e => hab (Prod.mk.inj e).2) List.nodup_range', fun x hx y hy e => ?_⟩
    subst e
    obtain ⟨j, _, rfl⟩ := List.mem_map.1 hy
    have := (ijP_mem hx).1
    dsimp only at this; omega
theorem flatMap_cg {α β : Type} {f f' : α → List β} : ∀ {l : List α}, (∀ a ∈ l, f a = f' a) → l.flatMap f = l.flatMap f'
  | [], _ => rfl
  | a :: l, h => by rw [List.flatMap_cons, List.flatMap_cons, h a (by simp), flatMap_cg fun x hx => h x (by simp [hx])]
theorem preP_ij (b : List Int) : preP b b.length = (ijP b.length b.length).map fun q => (b.getD q.1 0, b.getD q.2 0) := by
  unfold preP ijP
  rw [List.map_flatMap]
  apply flatMap_cg
  intro i hi
  rw [List.map_map]
  apply List.ext_getElem
  · simp
  · intro j h1 h2
    simp only [List.length_map, List.length_drop] at h1
    simp only [List.getElem_map, List.getElem_drop, List.getElem_range', Function.comp, Nat.one_mul]
    congr 1
    exact (getD_of' (List.getElem?_eq_getElem (by omega))).symm
section
variable {g d : Int} {es : Es} {sel b pr : List Int} {rs : List RowH} {xss : List (List Int)} {W : Nat → Nat → Option Nat} {used : Nat}
theorem hs_ix {L : List (Nat × Nat)} (h : ∀ q ∈ L, W q.1 q.2 ≠ none) : hsW rs W L = (ixW W L).map fun i => rs.getD i ⟨none, 0, 0⟩ := by
  unfold hsW ixW
  rw [List.map_map]
  apply List.map_congr_left
  intro q hq
  have := h q hq
  cases e : W q.1 q.2 with
  | none => exact absurd e this
  | some s => simp only [Function.comp, e]; rfl
theorem WOK.ixNd (K : KOK g d es sel b) (H : WOK g es sel b pr rs xss W used) {L : List (Nat × Nat)} (h : ∀ q ∈ L, W q.1 q.2 ≠ none) (nd : L.Nodup) : (ixW W L).Nodup ∧ ∀ i ∈ ixW W L, i < rs.length := by
  refine ⟨?_, fun i hi => ?_⟩
  · unfold ixW
    refine List.pairwise_map.2 (List.Pairwise.imp_of_mem (R := (· ≠ ·)) (fun {x y} hx hy hne e => hne ?_) nd)
    have hx' := h x hx
    have hy' := h y hy
    cases e1 : W x.1 x.2 with
    | none => exact absurd e1 hx'
    | some s =>
      cases e2 : W y.1 y.2 with
      | none => exact absurd e2 hy'
      | some t =>
        rw [e1, e2] at e
        obtain rfl : s = t := e
        have := H.inj2 K e1 e2
        exact Prod.ext this.1 this.2
  · obtain ⟨q, hq, rfl⟩ := List.mem_map.1 hi
    have := h q hq
    cases e : W q.1 q.2 with
    | none => exact absurd e this
    | some s => exact (H.lt e).1
theorem WOK.paths (K : KOK g d es sel b) (H : WOK g es sel b (prK es sel b b.length 0) rs xss W used) {L : List (Nat × Nat)} (h : ∀ q ∈ L, W q.1 q.2 ≠ none) : ((ixW W L).map fun i => xss.getD i []) = (L.map fun q => (b.getD q.1 0, b.getD q.2 0)).map fun q => pathOf g es sel b q.1 q.2 := by
  unfold ixW
  rw [List.map_map, List.map_map]
  apply List.map_congr_left
  intro q hq
  have := h q hq
  cases e : W q.1 q.2 with
  | none => exact absurd e this
  | some s =>
    simp only [Function.comp, e]
    obtain ⟨_, l1, l2⟩ := H.lt e
    have h1 := List.getElem?_eq_getElem l1
    have h2 := List.getElem?_eq_getElem l2
    rw [getD_of' h1, getD_of' h2]
    exact (H.path K h1 h2 e).2
theorem KOK.fresh (K : KOK g d es sel b) {i : Nat} (hi : i < b.length) (H : WOK g es sel b (prK es sel b i 0) rs xss W used) (j : Nat) : W i j = none := by
  cases e : W i j with
  | none => rfl
  | some s =>
    obtain ⟨x, u, v, h1, h2, h3, h4, h5⟩ := (H.w i j s).1 e
    have hx := List.mem_of_getElem? h1
    rw [prK_zero] at hx
    have hx2 := (prA_perm K.c _).mem_iff.1 hx
    obtain ⟨w, hw, hx2⟩ := List.mem_flatMap.1 hx2
    obtain ⟨n, rfl, _, rfl⟩ := inH_out K.c hx2
    have e4 : fromH es n = u := h4
    rw [e4] at hw
    obtain ⟨i', hi'⟩ := List.mem_iff_getElem?.1 hw
    have hlt : i' < i := by
      have := (List.getElem?_eq_some_iff.1 hi').1
      simp only [List.length_take] at this; omega
    rw [List.getElem?_take_of_lt hlt] at hi'
    have := nodup_inj K.nd hi' h2
    omega
theorem KOK.small (K : KOK g d es sel b) {i k : Nat} (hi : i < b.length ∨ k = 0) : sm (usedF g es sel) (prK es sel b i k) ≤ 24 * es.length := by
  have h1 := pathsB_len K.m K.z b fun v hv => hv
  rw [paths_eq, List.length_map] at h1
  have h2 := (brOK_len K.z).1
  obtain ⟨nd, sub⟩ := K.prIn (k := k) hi
  have h3 : (prK es sel b i k).length ≤ (startsB es sel b).length := by rw [← (prA_perm K.c b).length_eq]; exact (prSub hi).length_le
  have h4 : sm (usedF g es sel) (prK es sel b i k) ≤ (prK es sel b i k).length * es.length := sm_le fun x hx => by
    have := (K.rho (sub x hx)).2.2.2.2.2.1
    unfold usedF; split <;> omega
  exact Nat.le_trans h4 (Nat.mul_le_mul_right _ (by omega))
theorem sides_firsts (K : KOK g d es sel b) (H : WOK g es sel b (prK es sel b b.length 0) rs xss W used) (h0 : 0 < b.length) :
    nodesAt b (oneL (fun i j => hdr rs (W i j)) b.length) = firstsB g es sel b ∧ nodesAt b (twoL (fun i j => hdr rs (W i j)) b.length) = othersB g es sel b := by
  have hb0 := List.getElem?_eq_getElem h0
  have hd0 : b.headD 0 = b[0] := by
    match b, h0 with
    | x :: r, _ => rfl
  have key : ∀ i ∈ List.range b.length, isOne (fun i j => hdr rs (W i j)) i = (decide (b.getD i 0 = b.headD 0) || decide (cntF g es sel b (b.headD 0) (b.getD i 0) = 0)) := by
    intro i hi
    have hi' := List.mem_range.1 hi
    have hbi := List.getElem?_eq_getElem hi'
    unfold isOne
    rw [H.hdrNone, getD_of' hbi, hd0]
    have e1 : decide (i = 0) = decide (b[i] = b[0]) := by
      rw [decide_eq_decide]
      exact ⟨fun e => by subst e; rfl, fun e => nodup_inj K.nd hbi (by rw [hb0, e])⟩
    have e2 : (W 0 i).isNone = decide (cntF g es sel b b[0] b[i] = 0) := by
      have := H.cnt K hb0 hbi
      cases e : W 0 i with
      | none => exact (decide_eq_true (this.1 e)).symm
      | some s => exact (decide_eq_false fun q => by rw [this.2 q] at e; cases e).symm
    rw [e1, e2]
  have gen : ∀ (p : Int → Bool) (l : List Int), nodesAt l ((List.range l.length).filter fun i => p (l.getD i 0)) = l.filter p := by
    intro p l
    unfold nodesAt
    have : ((List.range l.length).map fun i => l.getD i 0) = l := by
      apply List.ext_getElem
      · simp
      · intro j h1 h2
        simp only [List.getElem_map, List.getElem_range]
        exact getD_of' (List.getElem?_eq_getElem h2)
    conv => rhs; rw [← this]
    rw [List.filter_map]; rfl
  unfold oneL twoL firstsB othersB
  have key2 : ∀ i ∈ List.range b.length, (!isOne (fun i j => hdr rs (W i j)) i) = !(decide (b.getD i 0 = b.headD 0) || decide (cntF g es sel b (b.headD 0) (b.getD i 0) = 0)) := fun i hi => by rw [key i hi]
  rw [List.filter_congr key, List.filter_congr key2]
  exact ⟨gen (fun v => decide (v = b.headD 0) || decide (cntF g es sel b (b.headD 0) v = 0)) b, gen (fun v => !(decide (v = b.headD 0) || decide (cntF g es sel b (b.headD 0) v = 0))) b⟩
theorem pair_hs (w : Nat → Nat → RowH) (a c : List Nat) : pairH w a c = (a.flatMap fun i => c.map fun k => (i, k)).map fun q => w q.1 q.2 := by
  unfold pairH
  rw [List.map_flatMap]
  apply flatMap_cg
  intro i _
  rw [List.map_map]; rfl
end
end Go.Proofs.Ytmcloipjlihhlaa.N

/- Package traceryref12, by hand over memory: the kind, the branch nodes, the paths. Conditions: none. -/
set_option linter.unusedSimpArgs false
set_option linter.unusedVariables false
namespace Go.Proofs.Ytmcloipjlihhlaa.N
open Go.X Go.Proofs.Ytmcloipjlihhlaa
set_option maxRecDepth 100000

theorem mem_nodesAt {b : List Int} {l : List Nat} {u : Int} : u ∈ nodesAt b l ↔ ∃ i ∈ l, b.getD i 0 = u := by
  unfold nodesAt; rw [List.mem_map]
theorem pairs_at (b : List Int) (a c : List Nat) : ((a.flatMap fun i => c.map fun k => (i, k)).map fun q => (b.getD q.1 0, b.getD q.2 0)) = pairsOf (nodesAt b a) (nodesAt b c) := by
  unfold pairsOf nodesAt
  rw [List.map_flatMap, List.flatMap_map]
  apply flatMap_cg
  intro i _
  rw [List.map_map, List.map_map]; rfl
theorem pairsN_nodup {a c : List Nat} (ha : a.Nodup) (hc : c.Nodup) : (a.flatMap fun i => c.map fun k => (i, k)).Nodup := by
  induction a with
  | nil => simp
  | cons x a ih =>
    obtain ⟨h1, h2⟩ := List.nodup_cons.1 ha
    rw [List.flatMap_cons]
    refine List.nodup_append.2 ⟨List.Pairwise.map _ (fun p q hpq e => hpq (Prod.mk.inj e).2) hc, ih h2, fun p hp q hq e => ?_⟩
    subst e
    obtain ⟨k, _, rfl⟩ := List.mem_map.1 hp
    obtain ⟨y, hy, hq⟩ := List.mem_flatMap.1 hq
    obtain ⟨k', _, e⟩ := List.mem_map.1 hq
    exact h1 ((Prod.mk.inj e).1 ▸ hy)
structure AdrA where
  eA : Option Addr
  eC : Nat
  sA : Option Addr
  sC : Nat
  dA : Option Addr
  dC : Nat
  nA : Option Addr
  nC : Nat
  oA : Option Addr
  oC : Nat
  oH : List RowH
  h0 : Nat
  w0 : Nat
def csA (g : Int) (es : Es) (sel b : List Int) (a : AdrA) (wH : List RowH) (made : Nat) (rs : List RowH) (xss : List (List Int)) (W : Nat → Nat → Option Nat) : List Ck :=
  [Ck.vw eP a.eA es.length a.eC es, Ck.vw eI a.sA sel.length a.sC sel, Ck.junk a.h0, Ck.vw eI a.dA (degsK g es sel).length a.dC (degsK g es sel), Ck.sl eI 3 a.nA b.length a.nC b,
   Ck.vrows eI a.oA (outsR g es sel (2 * es.length)).length a.oC a.oH (outsR g es sel (2 * es.length)), Ck.rows eH 73 40 (some ⟨a.w0, 0, none⟩) b.length b.length wH (wayM b.length made rs W), Ck.sto eI 3 rs xss]
set_option maxHeartbeats 4000000 in
theorem okAllR {g : Int} {es : Es} {sel : List Int} {R : Int → List Int → List (List Int) → Prop} (m : MayN g es) (c : ChosenK (es.length : Int) sel) (hs : sel.length ≤ 1000000) (z : (¬ ∃ k b p, Good g es sel k b p) → R 0 [] []) (good : ∀ k b p, Good g es sel k b p → R k b p) : Ok61 g es sel R := by
  intro h eA eL eC sA sL sC H
  have Y : Sy h [] h _ := Sy.startM H rfl
  obtain rfl := Y.lenV 0 rfl
  obtain rfl := Y.lenV 1 rfl
  have g0 := m.g0
  have g1 := m.g1
  have mm := m.m
  apply calls61
  unfold S61
  have zero : ∀ {h' : Heap} {cs : List Ck}, Sy h [] h' cs → (¬ ∃ k b p, Good g es sel k b p) → ∃ (raV : Int) (rbVA : Option Addr) (rbVL rbVC : Nat) (rbV : List Int) (rcVA : Option Addr) (rcVL rcVC : Nat) (rcH : List RowH) (rcV : List (List Int)), Sy h [] h' [Ck.sl eI 3 rbVA rbVL rbVC rbV, Ck.rows eI 40 3 rcVA rcVL rcVC rcH rcV] ∧ (Value.tuple #[.int .i64 0, .slice none 0 0, .slice none 0 0]) = .tuple #[.int .i64 raV, .slice rbVA rbVL rbVC, .slice rcVA rcVL rcVC] ∧ R raV rbV rcV := by
    intro h' cs Y n
    have Y : Sy h [] h' [] := Y.pick [] rfl
    have Y : Sy h [] h' [_] := Y.nilS eI 3
    have Y : Sy h [] h' [_, _] := Y.nilR eI 40 3
    exact ⟨0, none, 0, 0, [], none, 0, 0, [], [], Y, rfl, z n⟩
  intro hv
  have Y : Sy h [] hv [_, _, _] := Y.junk _
  clear_value hv
  refine callX_sy (okDegR (R := fun d => d = degsK g es sel) m c hs rfl _ _ _ _ _ _ _ (Y.pick [0, 1] rfl).hp) (fun _ _ ⟨_, _, _, _, p, _⟩ => p.fr) (allc (fun h => by cases h) alln) ?_
  rintro v hv2 ⟨dA, dL, dC, _, PP, rfl, rfl⟩
  have Y : Sy h [] hv2 [_, _, _, _] := Y.callV PP ⟨rfl, trivial⟩
  clear PP
  obtain rfl := Y.lenS 3 rfl
  have Y : Sy h [] hv2 [_, _, _, Ck.vw eI dA _ dC (degsK g es sel)] := Y.turn 3 rfl To.slvw
  refine ⟨_, _, _, rfl, ?_⟩
  have okB : Ok152 (degsK g es sel) fun b k => (b = [] ∧ k = 0 ∧ ¬ ∃ d b, BrOK (outsF g es sel) d b) ∨ (k = 5 ∧ BrOK (outsF g es sel) 4 b) ∨ (k = 33 ∧ BrOK (outsF g es sel) 3 b) :=
    okBranchR (outs := outsF g es sel) (by rw [outsF_len]; omega) (fun n => .inl ⟨rfl, rfl, n⟩) (fun b z => .inr (.inl ⟨rfl, z⟩)) fun b z => .inr (.inr ⟨rfl, z⟩)
  refine callX_sy (okB _ _ _ _ (Y.pick [3] rfl).hp) (fun _ _ ⟨_, _, _, _, _, p, _⟩ => p.fr) (allc (fun h => by cases h) alln) ?_
  rintro v2 hv3 ⟨nA, nL, nC, b, k, PP, rfl, HB⟩
  have Y : Sy h [] hv3 [_, _, _, _, _] := Y.callV PP ⟨rfl, trivial⟩
  clear PP okB
  obtain rfl := Y.lenS 4 rfl
  refine ⟨_, _, _, _, rfl, ?_⟩
  refine cnd_eq (fun q => ?_) fun q => ?_
  · refine zero Y ?_
    rcases HB with ⟨_, _, n⟩ | ⟨e, _⟩ | ⟨e, _⟩
    · rintro ⟨k, b', p, y⟩
      rcases y with ⟨_, z', _⟩ | ⟨_, u, rest, z', _⟩
      · exact n ⟨_, _, z'⟩
      · exact n ⟨_, _, z'⟩
    · omega
    · omega
  obtain ⟨d, K, hk5⟩ : ∃ d, KOK g d es sel b ∧ ((k = 5 ∧ d = 4) ∨ (k = 33 ∧ d = 3)) := by
    rcases HB with ⟨_, e, _⟩ | ⟨e, z'⟩ | ⟨e, z'⟩
    · exact absurd e q
    · exact ⟨4, ⟨m, c, z'⟩, .inl ⟨e, rfl⟩⟩
    · exact ⟨3, ⟨m, c, z'⟩, .inr ⟨e, rfl⟩⟩
  have bl := (brOK_len K.z).1
  have bl5 : 5 ≤ b.length := by rcases K.z.shape with ⟨_, e⟩ | ⟨_, e⟩ <;> omega
  clear HB
  refine callX_sy (okHalvesR (R := fun l => l = outsR g es sel (2 * es.length)) m c hs rfl _ _ _ _ _ _ _ (Y.pick [0, 1] rfl).hp) (fun _ _ ⟨_, _, _, _, _, p, _⟩ => p.fr) (allc (fun h => by cases h) alln) ?_
  rintro v3 hv4 ⟨oA, oL, oC, oH, _, PP, rfl, rfl⟩
  have Y : Sy h [] hv4 [_, _, _, _, _, _] := Y.callV PP ⟨rfl, trivial⟩
  clear PP
  obtain rfl := Y.lenR 5 rfl
  have Y : Sy h [] hv4 [_, _, _, _, _, Ck.vrows eI oA _ oC oH (outsR g es sel (2 * es.length))] := Y.turn 5 rfl To.rowsv
  refine ⟨_, _, _, rfl, by omega, by omega, by omega, by omega, ?_⟩
  rw [Int.toNat_natCast b.length]
  intro hv5
  have Y : Sy h [] hv5 [_, _, _, _, _, _, Ck.rows eH 73 40 (some ⟨hv4.size, 0, none⟩) b.length b.length _ _] := Y.mkR eH 40 b.length b.length (Nat.le_refl _) (by simp only [maxLen]; omega)
  clear_value hv5
  have Y : Sy h [] hv5 [_, _, _, _, _, _, _, _] := Y.stoNew eI 3
  obtain ⟨a, ha⟩ : ∃ a : AdrA, a = ⟨eA, eC, sA, sC, dA, dC, nA, nC, oA, oC, oH, h.size, hv4.size⟩ := ⟨_, rfl⟩
  have ol := outsR_len (g := g) (es := es) (sel := sel) (2 * es.length)
  refine ⟨fun lz h' => ∃ (used i : Nat) (wH rs : List RowH) (xss : List (List Int)) (W : Nat → Nat → Option Nat), lz = [.int .i64 (used : Int), .int .i64 (i : Int)] ∧ i ≤ b.length ∧ WOK g es sel b (prK es sel b i 0) rs xss W used ∧ Sy h [] h' (csA g es sel b a wH i rs xss W),
    fun lz _ => (match lz with | [_, .int _ x] => ((b.length : Int) - x).toNat | _ => 0), ⟨0, 0, List.replicate b.length ⟨none, 0, 0⟩, [], [], fun _ _ => none, rfl, Nat.zero_le _, ?_, ?_⟩, ?_⟩
  · rw [prK_zero]; exact WOK.nil
  · subst ha
    unfold csA
    rw [wayM_zero]
    exact Y
  clear Y
  rintro _ _ hv6 ⟨used, i, wH, rs, xss, W, e, hi, H0, Y0⟩
  cases e
  have Y : Sy h [] hv6 [Ck.vw eP eA es.length eC es, Ck.vw eI sA sel.length sC sel, Ck.junk h.size, Ck.vw eI dA (degsK g es sel).length dC (degsK g es sel), Ck.sl eI 3 nA b.length nC b, Ck.vrows eI oA (outsR g es sel (2 * es.length)).length oC oH (outsR g es sel (2 * es.length)), Ck.rows eH 73 40 (some ⟨hv4.size, 0, none⟩) b.length b.length wH (wayM b.length i rs W), Ck.sto eI 3 rs xss] := by subst ha; exact Y0
  clear Y0
  refine cnd_dec (fun hlt => ?_) fun hlt => ?_
  · have hib : i < b.length := by omega
    obtain ⟨u, hu⟩ : ∃ u, b[i]? = some u := ⟨_, List.getElem?_eq_getElem hib⟩
    have ub := brOK_at m K.z (List.mem_of_getElem? hu)
    refine ⟨by omega, by omega, by omega, by omega, ?_⟩
    intro hv7
    have Y : Sy h [] hv7 [_, _, _, _, _, _, _, _, Ck.sl eH 40 (some ⟨hv6.size, 0, none⟩) b.length b.length _] := Y.mkS (E := eH) (ty := 40) ⟨none, 0, 0⟩ b.length b.length (Nat.le_refl _) (by simp only [maxLen]; omega)
    clear_value hv7
    refine ⟨hv4.size, 0, rfl, by omega, hlt, Y.neJ 6 2 rfl rfl rfl (Go.X.memR rfl), Y.cellRX 6 rfl rfl (by omega), Y.freeR 6 rfl rfl _, ?_⟩
    rw [Int.toNat_natCast i]
    intro hv8
    have Y : Sy h [] hv8 [_, _, _, _, _, _, _, _, _] := Y.putR 6 8 rfl rfl rfl rfl hib
    clear_value hv8
    rw [wayM_new hib (K.fresh hib H0)] at Y
    refine ⟨fun lz h' => ∃ (used k : Nat) (wH rs : List RowH) (xss : List (List Int)) (W : Nat → Nat → Option Nat), lz = [.int .i64 (used : Int), .int .i64 (k : Int)] ∧ k ≤ (outR es sel u (2 * es.length)).length ∧ WOK g es sel b (prK es sel b i k) rs xss W used ∧ Sy h [] h' (csA g es sel b a wH (i + 1) rs xss W),
      fun lz _ => (match lz with | [_, .int _ x] => (((outR es sel u (2 * es.length)).length : Int) - x).toNat | _ => 0), ⟨used, 0, wH.set i ⟨some ⟨hv6.size, 0, none⟩, b.length, b.length⟩, rs, xss, W, rfl, Nat.zero_le _, H0, ?_⟩, ?_⟩
    · subst ha; exact Y.pick [0, 1, 2, 3, 4, 5, 6, 7] rfl
    clear Y H0
    rintro _ _ hv9 ⟨used, k, wH, rs, xss, W, e, hk, H0, Y0⟩
    cases e
    have Y : Sy h [] hv9 [Ck.vw eP eA es.length eC es, Ck.vw eI sA sel.length sC sel, Ck.junk h.size, Ck.vw eI dA (degsK g es sel).length dC (degsK g es sel), Ck.sl eI 3 nA b.length nC b, Ck.vrows eI oA (outsR g es sel (2 * es.length)).length oC oH (outsR g es sel (2 * es.length)), Ck.rows eH 73 40 (some ⟨hv4.size, 0, none⟩) b.length b.length wH (wayM b.length (i + 1) rs W), Ck.sto eI 3 rs xss] := by subst ha; exact Y0
    clear Y0
    have hu' : b[Int.toNat (i : Int)]? = some u := by rw [Int.toNat_natCast]; exact hu
    obtain ⟨b2, hb2, _, _⟩ := Y.atS 4 rfl (i := (i : Int)) (by omega) hlt
    obtain ⟨b3, o3, hb3, _, x, hx, r, hr⟩ := Y.atW 5 rfl (i := u) (by omega) (by omega)
    obtain rfl : outR es sel u (2 * es.length) = x := Option.some.inj ((outsR_get ub.1.1 ub.1.2).symm.trans hx)
    have hol := outR_le (es := es) (sel := sel) u (2 * es.length)
    refine ⟨b2, 0, hb2, by omega, hlt, _, Y.cellS 4 rfl hb2 (t := 0) hu' rfl, b3, o3, hb3, by omega, by omega, _, _, _, Y.cellWR 5 rfl hb3 hr hx, ?_⟩
    refine cnd_dec (fun hlt2 => ?_) fun hlt2 => ?_
    · have hk2 : k < (outR es sel u (2 * es.length)).length := by omega
      obtain ⟨b6, o6, hb6, _, x3, hx3⟩ := Y.atRowW 5 rfl hr hx (i := (k : Int)) (by omega) hlt2
      refine ⟨b2, 0, hb2, by omega, hlt, _, Y.cellS 4 rfl hb2 (t := 0) hu' rfl, b3, o3, hb3, by omega, by omega, _, _, _, Y.cellWR 5 rfl hb3 hr hx, b6, o6, hb6, by omega, hlt2, _, Y.cellRowW 5 rfl hr hx hb6 (t := 0) hx3 rfl, ?_⟩
      rw [Int.toNat_natCast] at hx3
      have estep := prK_step hu hx3
      obtain ⟨nd, sub⟩ := K.prIn (i := i) (k := k + 1) (.inl hib)
      rw [estep] at nd sub
      have xS : x3 ∈ startsB es sel b := sub x3 (by simp)
      have xn : x3 ∉ prK es sel b i k := fun q => (List.nodup_append.1 nd).2.2 x3 q x3 (by simp) rfl
      obtain ⟨st, ex, _⟩ := K.start xS
      have fru : frF es x3 = u := by
        have hm := List.mem_of_getElem? hx3
        have := (outR_perm c u).mem_iff.1 hm
        obtain ⟨n, rfl, _, e⟩ := inH_out c this
        exact e
      obtain ⟨n, rfl⟩ : ∃ n : Nat, x3 = n := ⟨x3.toNat, ex.symm⟩
      rw [Int.toNat_natCast] at st
      have enB := K.en xS
      obtain ⟨j0, hj0⟩ := List.mem_iff_getElem?.1 enB
      have hio := folF_ok m c st.i st.d
      refine callX_sy (okFollowR (R := fun l => l = folF es (outsF g es sel) n) m c st rfl _ _ _ _ _ _ _ _ _ _ _ (Y.pick [0, 5, 3] rfl).hp) (fun _ _ ⟨_, _, _, _, p, _⟩ => p.fr) (allc (fun h => by cases h) alln) ?_
      rintro v4 hv10 ⟨lA, lL, lC, _, PP, rfl, rfl⟩
      have F : Fr [] hv9 hv10 := PP.fr
      have Y : Sy h [] hv10 [_, _, _, _, _, _, _, _, _] := Y.callV PP ⟨rfl, trivial⟩
      clear PP
      obtain rfl := Y.lenS 8 rfl
      have lpos : 0 < (folF es (outsF g es sel) n).length := List.length_pos_iff.2 hio.1.1
      have lle : lnF g es sel (n : Int) ≤ es.length := (K.rho xS).2.2.2.2.2.1
      have lln : (folF es (outsF g es sel) n).length = lnF g es sel (n : Int) := rfl
      refine ⟨_, _, _, rfl, F, ?_⟩
      intro Kf
      have hK : ∀ (j : Nat) (hv13 : Heap), j < b.length → b[j]? = some (enF g es sel (n : Int)) → Sy h [] hv13 [Ck.vw eP eA es.length eC es, Ck.vw eI sA sel.length sC sel, Ck.junk h.size, Ck.vw eI dA (degsK g es sel).length dC (degsK g es sel), Ck.sl eI 3 nA b.length nC b, Ck.vrows eI oA (outsR g es sel (2 * es.length)).length oC oH (outsR g es sel (2 * es.length)), Ck.rows eH 73 40 (some ⟨hv4.size, 0, none⟩) b.length b.length wH (wayM b.length (i + 1) rs W), Ck.sto eI 3 rs xss, Ck.sl eI 3 lA (folF es (outsF g es sel) n).length lC (folF es (outsF g es sel) n)] → Kf (j : Int) hv13 := by
        clear Y
        intro j hv13 hjb hj Y
        unfold Kf
        intro K2
        refine cnd_eq (fun q => by omega) fun _ => cnd_eq (fun q => ?_) fun hji => ?_
        · refine zero Y (K.noGood fun I _ => vio_loop xS ?_ I)
          obtain rfl : j = i := by omega
          rw [fru]; exact Option.some.inj (hj.symm.trans hu)
        · obtain ⟨_, _, _, w, hw, r', hr'⟩ := Y.atR 6 rfl (i := (i : Int)) (by omega) hlt
          rw [Int.toNat_natCast] at hw hr'
          obtain ⟨_, ew⟩ := wayM_get hw
          rw [if_pos (by omega)] at ew
          have hwl : w.length = b.length := by rw [ew]; simp
          obtain ⟨b10, hb10, mb10, y, hy⟩ := Y.atRow 6 rfl hr' hw (i := (j : Int)) (by omega) (by omega)
          rw [Int.toNat_natCast] at hy
          obtain ⟨_, ey⟩ := matr_get (ew ▸ hy)
          have cR := Y.cellR 6 rfl rfl hr' hw
          have cW := Y.cellRow 6 rfl hr' hw hb10 (t := 0) hy rfl
          refine ⟨hv4.size, 0, rfl, by omega, hlt, _, _, _, by first | exact cR | (rw [Int.toNat_natCast]; exact cR), b10, 0, hb10, by omega, by omega, _, _, _, by first | exact cW | (rw [Int.toNat_natCast]; exact cW), ?_⟩
          have enone : y.a.isNone = (W i j).isNone := by rw [ey]; exact H0.hdrNone i j
          refine cnd_not (fun q => ?_) fun q => ?_
          · refine zero Y (K.noGood fun I _ => ?_)
            cases eW : W i j with
            | none => rw [enone, eW] at q; cases q
            | some s => exact H0.vio (fun x hx => sub x (List.mem_append_left _ hx)) xS xn eW (by rw [fru]; exact hu) hj I
          · have eW : W i j = none := by
              cases eW : W i j with
              | none => rfl
              | some s => rw [enone, eW] at q; cases q
            refine ⟨hv4.size, 0, rfl, by omega, hlt, _, _, _, by first | exact cR | (rw [Int.toNat_natCast]; exact cR), b10, 0, hb10, by omega, by omega, Y.neJ 6 2 rfl rfl rfl mb10, ⟨_, by first | exact cW | (rw [Int.toNat_natCast]; exact cW)⟩, Y.freeRow 6 rfl hr' hw hb10 _, ?_⟩
            rw [Int.toNat_natCast j]
            intro hv15
            have nnA : lA.isNone = false := by
              obtain ⟨b8, e8, _⟩ := Y.atS 8 rfl (i := 0) (by omega) (by omega)
              rw [e8]; rfl
            have Y : Sy h [] hv15 [_, _, _, _, _, _, _, _, _] := Y.stRow1 6 rfl hr' hw hb10 (⟨lA, (folF es (outsF g es sel) n).length, lC⟩ : RowH) hy rfl
            clear_value hv15
            have Y : Sy h [] hv15 [_, _, _, _, _, _, _, _, _] := Y.stoPut 7 8 rfl rfl rfl
            rw [ew, H0.set _ hib hjb] at Y
            have H1 := H0.step K (x := (n : Int)) (i := i) (j := j) (r := ⟨lA, (folF es (outsF g es sel) n).length, lC⟩) (by rw [fru]; exact hu) hj (by omega) eW nnA
            rw [← estep] at H1
            have sm1 := K.small (i := i) (k := k) (.inl hib)
            rw [← H0.used] at sm1
            rw [wr (x := (k : Int) + 1) (by omega) (by omega), wr (x := (used : Int) + ((folF es (outsF g es sel) n).length : Int)) (by omega) (by omega)]
            refine ⟨fun lz h' => lz = [.int .i64 ((used + if i < j then lnF g es sel (n : Int) else 0 : Nat) : Int)] ∧ h' = hv15, cnd_dec (fun q => ⟨?_, rfl⟩) fun q => ⟨?_, rfl⟩, ?_⟩
            · rw [if_pos (by omega)]; simp [lln]
            · rw [if_neg (by omega)]; simp
            · rintro _ _ ⟨e, rfl⟩
              cases e
              exact ⟨⟨_, k + 1, _, _, _, _, rfl, by omega, H1, by subst ha; exact Y.pick [0, 1, 2, 3, 4, 5, 6, 7] rfl⟩, by dsimp only; omega⟩
      refine ⟨fun lz h' => ∃ j : Nat, lz = [.int .i64 (j : Int)] ∧ j ≤ b.length ∧ (∀ (j' : Nat) (v : Int), j' < j → b[j']? = some v → v ≠ enF g es sel (n : Int)) ∧ Sy h [] h' [Ck.vw eP eA es.length eC es, Ck.vw eI sA sel.length sC sel, Ck.junk h.size, Ck.vw eI dA (degsK g es sel).length dC (degsK g es sel), Ck.sl eI 3 nA b.length nC b, Ck.vrows eI oA (outsR g es sel (2 * es.length)).length oC oH (outsR g es sel (2 * es.length)), Ck.rows eH 73 40 (some ⟨hv4.size, 0, none⟩) b.length b.length wH (wayM b.length (i + 1) rs W), Ck.sto eI 3 rs xss, Ck.sl eI 3 lA (folF es (outsF g es sel) n).length lC (folF es (outsF g es sel) n)],
        fun lz _ => (match lz with | [.int _ x] => ((b.length : Int) - x).toNat | _ => 0), ⟨0, rfl, Nat.zero_le _, fun j' v q => by omega, Y⟩, ?_⟩
      clear Y
      rintro _ hv11 ⟨j, e, hjl, hjn, Y⟩
      cases e
      refine cnd_dec (fun hlt3 => ?_) fun hlt3 => ?_
      · obtain ⟨b7, hb7, _, x4, hx4⟩ := Y.atS 4 rfl (i := (j : Int)) (by omega) hlt3
        refine ⟨b7, 0, hb7, by omega, hlt3, _, Y.cellS 4 rfl hb7 (t := 0) hx4 rfl, ?_⟩
        rw [Int.toNat_natCast] at hx4
        rw [wr (x := ((folF es (outsF g es sel) n).length : Int) - 1) (by omega) (by omega)]
        obtain ⟨b8, hb8, _, x5, hx5⟩ := Y.atS 8 rfl (i := ((folF es (outsF g es sel) n).length : Int) - 1) (by omega) (by omega)
        refine ⟨b8, 0, hb8, by omega, by omega, _, Y.cellS 8 rfl hb8 (t := 0) hx5 rfl, ?_⟩
        obtain ⟨n5, rfl, hn5⟩ := hio.1.2 x5 (List.mem_of_getElem? hx5)
        have en5 : toH es n5 = enF g es sel (n : Int) := by
          unfold enF endF lastF
          rw [Int.toNat_natCast]
          congr 1
          rw [show ((folF es (outsF g es sel) n).length : Int) - 1 = (((folF es (outsF g es sel) n).length - 1 : Nat) : Int) by omega, Int.toNat_natCast] at hx5
          rw [getD_of' hx5]; rfl
        refine callX_sy (okTo (R := fun r => r = toH es n5) hn5 (by omega) rfl _ _ _ _ (Y.pick [0] rfl).hp) (fun _ _ ⟨_, p, _⟩ => p.fr) (allc (fun h => by cases h) alln) ?_
        rintro v5 hv12 ⟨_, PP, rfl, rfl⟩
        have F2 : Fr [] hv11 hv12 := PP.fr
        have Y : Sy h [] hv12 [_, _, _, _, _, _, _, _, _] := Y.gr PP.fr
        clear PP
        refine ⟨_, rfl, F2, ?_⟩
        rw [en5]
        refine cnd_neK (fun q => ?_) fun q => hK j _ (by omega) (q ▸ hx4) Y
        rw [wr (by omega) (by omega)]
        refine ⟨⟨j + 1, by simp, by omega, fun j' v hj' hv' => ?_, Y⟩, by dsimp only; omega⟩
        by_cases e : j' = j
        · subst e
          obtain rfl := Option.some.inj (hv'.symm.trans hx4)
          exact q
        · exact hjn j' v (by omega) hv'
      · exact absurd rfl (hjn j0 _ (by have := (List.getElem?_eq_some_iff.1 hj0).1; omega) hj0)
    · have ek : k = (outR es sel u (2 * es.length)).length := by omega
      subst ek
      rw [prK_all hu] at H0
      rw [wr (by omega) (by omega)]
      exact ⟨⟨used, i + 1, wH, rs, xss, W, by simp, by omega, H0, by subst ha; exact Y⟩, by dsimp only; omega⟩
  have ei : i = b.length := by omega
  subst ei
  clear ha
  obtain ⟨I, hused⟩ := H0.inj K
  refine cnd_neK (fun q => zero Y (K.noGood fun _ u => by omega)) fun qu => ?_
  have hu : sm (usedF g es sel) (startsB es sel b) = sel.length := by omega
  refine cnd_eq (fun q5 => ?_) fun q5 => ?_
  · have d4 : d = 4 := by rcases hk5 with ⟨_, e⟩ | ⟨e, _⟩ <;> omega
    subst d4
    obtain ⟨gd, one⟩ := ref_five K I hu
    have wn : ∀ q ∈ ijP b.length b.length, W q.1 q.2 ≠ none := by
      intro q hq e
      obtain ⟨h1, h2, h3⟩ := ijP_mem hq
      have e1 := List.getElem?_eq_getElem (show q.1 < b.length by omega)
      have e2 := List.getElem?_eq_getElem (show q.2 < b.length by omega)
      have := one _ (List.mem_of_getElem? e1) _ (List.mem_of_getElem? e2) fun e => by
        have := nodup_inj K.nd e1 (by rw [e2, e])
        omega
      rw [(H0.cnt K e1 e2).1 e] at this; omega
    have Y : Sy h [] hv6 [_, _, _] := Y.pick [4, 6, 7] rfl
    have Y : Sy h [] hv6 [_, _, _, _] := Y.nilS eH 40
    refine ⟨fun lz h' => ∃ (pA : Option Addr) (pC i : Nat), lz = [.slice pA (hsW rs W (ijP b.length i)).length pC, .int .i64 (i : Int)] ∧ i ≤ b.length ∧ Sy h [] h' [Ck.sl eI 3 nA b.length nC b, Ck.rows eH 73 40 (some ⟨hv4.size, 0, none⟩) b.length b.length wH (wayM b.length b.length rs W), Ck.sto eI 3 rs xss, Ck.sl eH 40 pA (hsW rs W (ijP b.length i)).length pC (hsW rs W (ijP b.length i))],
      fun lz _ => (match lz with | [_, .int _ x] => ((b.length : Int) - x).toNat | _ => 0), ⟨none, 0, 0, rfl, Nat.zero_le _, Y⟩, ?_⟩
    clear Y
    rintro pA pL pC _ hv17 ⟨_, _, i, e, hi, Y⟩
    cases e
    refine cnd_dec (fun hlt2 => ?_) fun hlt2 => ?_
    · have hib : i < b.length := by omega
      rw [wr (x := (i : Int) + 1) (by omega) (by omega)]
      refine ⟨fun lz h' => ∃ (pA : Option Addr) (pC t : Nat), lz = [.slice pA (hsW rs W (ijP b.length i ++ (List.range' (i + 1) t).map fun j => (i, j))).length pC, .int .i64 ((i + 1 + t : Nat) : Int)] ∧ i + 1 + t ≤ b.length ∧ Sy h [] h' [Ck.sl eI 3 nA b.length nC b, Ck.rows eH 73 40 (some ⟨hv4.size, 0, none⟩) b.length b.length wH (wayM b.length b.length rs W), Ck.sto eI 3 rs xss, Ck.sl eH 40 pA (hsW rs W (ijP b.length i ++ (List.range' (i + 1) t).map fun j => (i, j))).length pC (hsW rs W (ijP b.length i ++ (List.range' (i + 1) t).map fun j => (i, j)))],
        fun lz _ => (match lz with | [_, .int _ x] => ((b.length : Int) - x).toNat | _ => 0), ⟨pA, pC, 0, by simp, by omega, by simpa using Y⟩, ?_⟩
      clear Y
      rintro pA pL pC _ hv18 ⟨_, _, t, e, ht, Y⟩
      cases e
      have hll : (hsW rs W (ijP b.length i ++ (List.range' (i + 1) t).map fun j => (i, j))).length ≤ 100 := by
        have := ijP_len b.length i (by omega) (by omega)
        unfold hsW
        rw [List.length_map, List.length_append, List.length_map, List.length_range']
        have : i * 6 ≤ 6 * 6 := Nat.mul_le_mul_right _ (by omega)
        omega
      refine cnd_dec (fun hlt3 => ?_) fun hlt3 => ?_
      · obtain ⟨_, _, _, w, hw, r', hr'⟩ := Y.atR 1 rfl (i := (i : Int)) (by omega) hlt2
        rw [Int.toNat_natCast] at hw hr'
        obtain ⟨_, ew⟩ := wayM_get hw
        rw [if_pos hib] at ew
        have hwl : w.length = b.length := by rw [ew]; simp
        obtain ⟨b10, hb10, mb10, y, hy⟩ := Y.atRow 1 rfl hr' hw (i := ((i + 1 + t : Nat) : Int)) (by omega) (by omega)
        rw [Int.toNat_natCast] at hy
        obtain ⟨_, ey⟩ := matr_get (ew ▸ hy)
        subst ey
        have cR := Y.cellR 1 rfl rfl hr' hw
        have cW := Y.cellRow 1 rfl hr' hw hb10 (t := 0) hy rfl
        refine ⟨hv4.size, 0, rfl, by omega, hlt2, _, _, _, by first | exact cR | (rw [Int.toNat_natCast]; exact cR), b10, 0, hb10, by omega, by omega, _, _, _, by first | exact cW | (rw [Int.toNat_natCast]; exact cW), ?_⟩
        intro hv19
        have Y : Sy h [] hv19 [_, _, _, _, _] := Y.junk _
        clear_value hv19
        refine ⟨_, Y.ownS 3 rfl, allc (Y.nJ 3 4 rfl rfl rfl) alln, by omega, by simp only [maxLen]; omega, ?_⟩
        intro sA' sC' hv20 ow fA gA gB
        have Y : Sy h [] hv20 [_, _, _, _, _] := Y.appS 3 rfl ([hdr rs (W i (i + 1 + t))] : List RowH) ow fA gA rfl rfl
        rw [wr (by omega) (by omega)]
        have el : hsW rs W (ijP b.length i ++ (List.range' (i + 1) (t + 1)).map fun j => (i, j)) = hsW rs W (ijP b.length i ++ (List.range' (i + 1) t).map fun j => (i, j)) ++ [hdr rs (W i (i + 1 + t))] := by
          unfold hsW
          simp only [List.range'_concat, List.map_append, List.append_assoc, List.map_cons, List.map_nil, Nat.one_mul]
        refine ⟨⟨sA', sC', t + 1, ?_, by omega, ?_⟩, by dsimp only; omega⟩
        · rw [el, len1, show ((i + 1 + t : Nat) : Int) + 1 = ((i + 1 + (t + 1) : Nat) : Int) by omega]
        · rw [el, len1]; exact Y.pick [0, 1, 2, 3] rfl
      · have et : t = b.length - (i + 1) := by omega
        subst et
        rw [← ijP_succ] at Y ⊢
        exact ⟨⟨pA, pC, i + 1, by simp, by omega, Y⟩, by dsimp only; omega⟩
    · have ei : i = b.length := by omega
      subst ei
      obtain ⟨nd, lt⟩ := H0.ixNd K wn (ijP_nodup _ _)
      rw [hs_ix wn] at Y ⊢
      have Y : Sy h [] hv17 [_, _, _, _] := Y.stoSel 2 3 rfl rfl lt nd rfl
      refine ⟨5, _, _, _, b, _, _, _, _, _, Y.pick [0, 3] rfl, rfl, ?_⟩
      have := good 5 b _ gd
      rw [preP_ij, ← H0.paths K wn] at this
      exact this
  · have d3 : d = 3 := by rcases hk5 with ⟨e, _⟩ | ⟨_, e⟩ <;> omega
    subst d3
    have bl6 : b.length = 6 := by rcases K.z.shape with ⟨e, _⟩ | ⟨_, e⟩ <;> omega
    have em : wayM b.length b.length rs W = matH 6 fun i j => hdr rs (W i j) := by rw [wayM_mat, bl6]
    have sf := sides_firsts K H0 (by omega)
    rw [em] at Y
    refine callX_sy (okSides (w := fun i j => hdr rs (W i j)) bl6 (((Y.turn 4 rfl To.slvw).turn 6 rfl To.rowsv).pick [4, 6] rfl).hp) (fun _ _ q => by rcases q with ⟨_, _, p⟩ | ⟨_, _, _, _, _, p, _⟩ <;> exact p.fr) (allc (fun h => by cases h) alln) ?_
    rw [bl6] at sf
    have hn3 : ∀ {i k : Nat}, i < 6 → k < 6 → (hdr rs (W i k)).a.isNone = decide (cntF g es sel b (b.getD i 0) (b.getD k 0) = 0) := by
      intro i k hi hk
      have e1 := List.getElem?_eq_getElem (show i < b.length by omega)
      have e2 := List.getElem?_eq_getElem (show k < b.length by omega)
      have := H0.cnt K e1 e2
      rw [H0.hdrNone, getD_of' e1, getD_of' e2]
      cases e : W i k with
      | none => exact (decide_eq_true (this.1 e)).symm
      | some s => exact (decide_eq_false fun q => by rw [this.2 q] at e; cases e).symm
    have l1 : (oneL (fun i j => hdr rs (W i j)) 6).length = (firstsB g es sel b).length := by rw [← sf.1]; simp [nodesAt]
    rintro v6 hv21 (⟨bad, rfl, PP⟩ | ⟨⟨o3, ok⟩, lA, lC, pA, pC, PP, rfl⟩)
    · refine ⟨_, _, _, _, _, _, _, rfl, zero (Y.gr PP.fr) ?_⟩
      rintro ⟨k, b', p, y⟩
      rcases good_ref K.m K.c y with ⟨_, K', _⟩ | ⟨_, B, K', _, _, f3, fw, _⟩
      · obtain ⟨e, _⟩ := K.z.uniq K'.z; omega
      · obtain ⟨_, rfl⟩ := K.z.uniq K'.z
        rcases bad with q | ⟨i, hi, k, hk, q⟩
        · omega
        · rw [hn3 (oneL_lt hi) (twoL_lt hk), decide_eq_true_eq] at q
          exact fw _ (sf.1 ▸ mem_nodesAt.2 ⟨i, hi, rfl⟩) _ (sf.2 ▸ mem_nodesAt.2 ⟨k, hk, rfl⟩) q
    · refine ⟨_, _, _, _, _, _, _, rfl, ?_⟩
      have Y : Sy h [] hv21 [_, _, _, _, _, _, _, _, _, _] := Y.callV PP ⟨rfl, ⟨rfl, trivial⟩⟩
      clear PP
      have wn : ∀ q ∈ ((oneL (fun i j => hdr rs (W i j)) 6).flatMap fun i => (twoL (fun i j => hdr rs (W i j)) 6).map fun k => (i, k)), W q.1 q.2 ≠ none := by
        intro q hq e
        obtain ⟨i, hi, hq⟩ := List.mem_flatMap.1 hq
        obtain ⟨k, hk, rfl⟩ := List.mem_map.1 hq
        have := ok i hi k hk
        rw [H0.hdrNone, e] at this; cases this
      obtain ⟨nd, lt⟩ := H0.ixNd K wn (pairsN_nodup (List.nodup_range.filter _) (List.nodup_range.filter _))
      have e9 : pairH (fun i j => hdr rs (W i j)) (oneL (fun i j => hdr rs (W i j)) 6) (twoL (fun i j => hdr rs (W i j)) 6) = (ixW W ((oneL (fun i j => hdr rs (W i j)) 6).flatMap fun i => (twoL (fun i j => hdr rs (W i j)) 6).map fun k => (i, k))).map fun i => rs.getD i ⟨none, 0, 0⟩ := (pair_hs _ _ _).trans (hs_ix wn)
      rw [e9] at Y ⊢
      have Y : Sy h [] hv21 [_, _, _, _, _, _, _, _, _, _] := Y.stoSel 7 9 rfl rfl lt nd rfl
      refine ⟨33, _, _, _, _, _, _, _, _, _, Y.pick [8, 9] rfl, rfl, ?_⟩
      have := good 33 _ _ (ref_three K I hu (by omega) fun u hu v hv => ?_)
      · rw [← sf.1, ← sf.2, ← nodesAt_app, ← pairs_at, ← H0.paths K wn] at this
        exact this
      · rw [← sf.1] at hu
        rw [← sf.2] at hv
        obtain ⟨i, hi, rfl⟩ := mem_nodesAt.1 hu
        obtain ⟨k, hk, rfl⟩ := mem_nodesAt.1 hv
        have := ok i hi k hk
        rw [hn3 (oneL_lt hi) (twoL_lt hk), decide_eq_false_iff_not] at this
        exact this
end Go.Proofs.Ytmcloipjlihhlaa.N
