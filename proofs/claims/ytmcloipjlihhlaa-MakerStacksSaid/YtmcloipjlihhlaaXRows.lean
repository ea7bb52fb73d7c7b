/- Slices of slices that are a call's own. Conditions: none. -/
import Derived.Test.YtmcloipjlihhlaaXU
namespace Go.X

structure Row where
  a : Option Addr
  n : Nat
  c : Nat
  xs : List Value

def Row.val (r : Row) : Value := .slice r.a r.n r.c

/-- A slice over a whole block of slices, each of which lies alone. -/
structure Rws (h : Heap) (eo er sr g : Nat) (rs : List Row) : Prop where
  out : Own h eo 1 (some ⟨g, 0, none⟩) rs.length rs.length (rs.map Row.val)
  row : ∀ (i : Nat) (r : Row), rs[i]? = some r → Own h er sr r.a r.n r.c r.xs
  apart : ∀ (i j : Nat) (r s : Row), i ≠ j → rs[i]? = some r → rs[j]? = some s → ∀ x ∈ blkOf r.a, x ∉ blkOf s.a
  ng : ∀ (i : Nat) (r : Row), rs[i]? = some r → g ∉ blkOf r.a

variable {h : Heap} {eo er sr g : Nat} {rs : List Row}

theorem Rws.made (h : Heap) (eo er sr : Nat) {n : Nat} (hn : n ≤ maxLen) : Rws (h.push (.cells (madeCells #[.slice none 0 0] n) eo)) eo er sr h.size (List.replicate n ⟨none, 0, 0, []⟩) := by
  refine ⟨?_, ?_, ?_, ?_⟩
  · have := own_made (h := h) (e := eo) (n := n) (.slice none 0 0) hn
    simpa [Row.val] using this
  · intro i r hr
    rw [List.getElem?_replicate] at hr
    split at hr <;> simp at hr
    subst hr; exact Own.nil _ _ _
  · intro i j r s _ hr _
    rw [List.getElem?_replicate] at hr
    split at hr <;> simp at hr
    subst hr; simp [blkOf]
  · intro i r hr
    rw [List.getElem?_replicate] at hr
    split at hr <;> simp at hr
    subst hr; simp [blkOf]

theorem Rws.blk {h' : Heap} (R : Rws h eo er sr g rs) (hg : h'[g]? = h[g]?) (hb : ∀ (i : Nat) (r : Row), rs[i]? = some r → ∀ x ∈ blkOf r.a, h'[x]? = h[x]?) : Rws h' eo er sr g rs :=
  ⟨R.out.blk (by simpa [blkOf] using hg), fun i r hr => (R.row i r hr).blk (hb i r hr), R.apart, R.ng⟩
theorem Rws.g_lt (R : Rws h eo er sr g rs) : g < h.size := R.out.lt g (by simp [blkOf])
theorem Rws.fr {h' : Heap} {M : List Nat} (R : Rws h eo er sr g rs) (f : Fr M h h') (hg : g ∉ M) (hb : ∀ (i : Nat) (r : Row), rs[i]? = some r → ∀ x ∈ blkOf r.a, x ∉ M) : Rws h' eo er sr g rs :=
  R.blk (f.blk g R.g_lt hg) fun i r hr x hx => f.blk x ((R.row i r hr).lt x hx) (hb i r hr x hx)
theorem Rws.fr0 {h' : Heap} (R : Rws h eo er sr g rs) (f : Fr [] h h') : Rws h' eo er sr g rs := R.fr f (by simp) (by simp)

theorem Rws.get (R : Rws h eo er sr g rs) {i : Nat} {r : Row} (hr : rs[i]? = some r) : hcell h g i = some (.slice r.a r.n r.c) :=
  R.out.cell (k := i) (by simp [hr, Row.val])

theorem Rws.setRow (R : Rws h eo er sr g rs) {i : Nat} {r : Row} (ho : Own h er sr r.a r.n r.c r.xs) (hg : g ∉ blkOf r.a)
    (ha : ∀ (j : Nat) (s : Row), j ≠ i → rs[j]? = some s → ∀ x ∈ blkOf r.a, x ∉ blkOf s.a) : Rws (hset h g i (.slice r.a r.n r.c)) eo er sr g (rs.set i r) := by
  refine ⟨?_, ?_, ?_, ?_⟩
  · have := R.out.set i (.slice r.a r.n r.c)
    simp only [List.length_set, List.map_set]
    exact this
  · intro j s hs
    rw [List.getElem?_set] at hs
    split at hs
    · split at hs <;> simp at hs
      subst hs
      exact ho.blk fun x hx => hset_ne (by rintro rfl; exact hg hx)
    · exact (R.row j s hs).blk fun x hx => hset_ne (by rintro rfl; exact R.ng j s hs hx)
  · intro j k s t hjk hs ht x hx
    rw [List.getElem?_set] at hs ht
    split at hs
    · split at hs <;> simp at hs
      subst hs
      rename_i h1 _
      rw [if_neg (by omega)] at ht
      exact ha k t (by omega) ht x hx
    · split at ht
      · split at ht <;> simp at ht
        subst ht
        rename_i h1 _
        exact fun hx2 => ha j s (by omega) hs x hx2 hx
      · exact R.apart j k s t hjk hs ht x hx
  · intro j s hs
    rw [List.getElem?_set] at hs
    split at hs
    · split at hs <;> simp at hs
      subst hs; exact hg
    · exact R.ng j s hs

theorem Rws.write (R : Rws h eo er sr g rs) {i b n c k : Nat} {xs : List Value} {v : Value} (hr : rs[i]? = some ⟨some ⟨b, 0, none⟩, n, c, xs⟩) :
    Rws (hset h b k v) eo er sr g (rs.set i ⟨some ⟨b, 0, none⟩, n, c, xs.set k v⟩) := by
  have hgb : g ≠ b := by have := R.ng i _ hr; simpa [blkOf] using this
  have hi : i < rs.length := (List.getElem?_eq_some_iff.1 hr).1
  have hmap : (rs.set i ⟨some ⟨b, 0, none⟩, n, c, xs.set k v⟩).map Row.val = rs.map Row.val := by
    rw [List.map_set]
    apply List.ext_getElem?
    intro j
    rw [List.getElem?_set]
    split
    · rename_i e; subst e; simp [hi, hr, Row.val]
      have := List.getElem?_eq_getElem hi
      rw [hr] at this; simp at this; rw [← this]; exact ⟨rfl, rfl, rfl⟩
    · rfl
  refine ⟨?_, ?_, ?_, ?_⟩
  · rw [hmap, List.length_set]; exact R.out.blk (by simp [blkOf]; exact hset_ne hgb)
  · intro j s hs
    rw [List.getElem?_set] at hs
    split at hs
    · simp at hs
      subst hs
      exact (R.row i _ hr).set k v
    · rename_i hij
      exact (R.row j s hs).blk fun x hx => hset_ne (by rintro rfl; exact R.apart i j _ s hij hr hs x (by simp [blkOf]) hx)
  · intro j l s t hjl hs ht x hx
    have key : ∀ (m : Nat) (u : Row), (rs.set i ⟨some ⟨b, 0, none⟩, n, c, xs.set k v⟩)[m]? = some u → ∃ u' : Row, rs[m]? = some u' ∧ u'.a = u.a := by
      intro m u hu
      rw [List.getElem?_set] at hu
      split at hu
      · simp at hu
        subst hu; rename_i e; subst e; exact ⟨_, hr, rfl⟩
      · exact ⟨u, hu, rfl⟩
    obtain ⟨s', hs1, hs2⟩ := key j s hs
    obtain ⟨t', ht1, ht2⟩ := key l t ht
    rw [← hs2] at hx; rw [← ht2]
    exact R.apart j l s' t' hjl hs1 ht1 x hx
  · intro j s hs
    rw [List.getElem?_set] at hs
    split at hs
    · simp at hs
      subst hs; simpa [blkOf] using hgb
    · exact R.ng j s hs

end Go.X
