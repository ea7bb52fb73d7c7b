/- Slices of one's own whose headers stand elsewhere. Conditions: none. -/
import Derived.Test.YtmcloipjlihhlaaYKeep
set_option linter.unusedVariables false
namespace Go.X
structure StoOK {α : Type} (E : En α) (t2 : TypeId) (rs : List RowH) (xss : List (List α)) (h : Heap) : Prop where
  lx : xss.length = rs.length
  row : ∀ (i : Nat) (r : RowH) (xs : List α), rs[i]? = some r → xss[i]? = some xs → Ownd h t2 E.sz r.a r.n r.c (E.l xs) ∧ xs.length = r.n
  ap : ∀ (i j : Nat) (r s : RowH), i ≠ j → rs[i]? = some r → rs[j]? = some s → ∀ b ∈ blkOf r.a, b ∉ blkOf s.a
theorem StoOK.xs {α : Type} {E : En α} {t2 : TypeId} {rs : List RowH} {xss : List (List α)} {h : Heap} (R : StoOK E t2 rs xss h) {i : Nat} {r : RowH} (hr : rs[i]? = some r) : ∃ xs, xss[i]? = some xs := by
  have := (List.getElem?_eq_some_iff.1 hr).1
  exact ⟨_, List.getElem?_eq_getElem (by rw [R.lx]; exact this)⟩
def Ck.sto {α : Type} (E : En α) (t2 : TypeId) (rs : List RowH) (xss : List (List α)) : Ck :=
  ⟨rblk (fun _ => false) 0 rs, [], StoOK E t2 rs xss,
    fun h R => ⟨fun b hb => by
      obtain ⟨j, r, h1, h2, h3⟩ := mem_rblk.1 hb
      obtain ⟨xs, hx⟩ := R.xs h1
      exact (R.row j r xs h1 hx).1.lt b h3, by simp⟩,
    fun h h' he _ R => ⟨R.lx, fun i r xs h1 h2 => ⟨(R.row i r xs h1 h2).1.blk fun b hb => he b (mem_rblk.2 ⟨i, r, h1, rfl, hb⟩), (R.row i r xs h1 h2).2⟩, R.ap⟩⟩
section
variable {α : Type} {E : En α} {h0 h h' : Heap} {M : List Nat} {cs : List Ck} {t1 t2 : TypeId} {a : Option Addr} {n c : Nat} {xs ys : List α} {xss : List (List α)} {rs : List RowH} {b o : Nat} {k j : Nat}
theorem Sy.stoNew (Y : Sy h0 M h cs) (E : En α) (t2 : TypeId) : Sy h0 M h (cs ++ [Ck.sto E t2 [] []]) :=
  Y.addN _ ⟨rfl, fun i r xs h1 => by simp at h1, fun i j r s _ h1 => by simp at h1⟩ rfl rfl
theorem Sy.stoPut (Y : Sy h0 M h cs) (k j : Nat) (hkj : Nat.beq k j = false) (hk : cs[k]? = some (Ck.sto E t2 rs xss)) {a' : Option Addr} {n' c' : Nat} {x' : List α} (hj : cs[j]? = some (Ck.sl E t2 a' n' c' x')) :
    Sy h0 M h ((cs.set k (Ck.sto E t2 (rs ++ [⟨a', n', c'⟩]) (xss ++ [x']))).set j Ck.no) := by
  have hne : k ≠ j := fun e => by subst e; simp at hkj
  have R : StoOK .. := Y.ok hk
  have S : Ownd .. ∧ _ := Y.ok hj
  have inR : ∀ (i : Nat) (r : RowH), rs[i]? = some r → ∀ d ∈ blkOf r.a, d ∈ (Ck.sto E t2 rs xss).own := fun i r hr d hd => mem_rblk.2 ⟨i, r, hr, rfl, hd⟩
  have jap : ∀ d ∈ (Ck.sto E t2 rs xss).own, d ∉ blkOf a' := fun d hd => (Y.hp.ap k j _ _ hne hk hj d hd).1
  refine Y.mut2 hne hk hj _ _ (Nat.le_refl _) (fun d _ _ => rfl) ?_ trivial (fun d hd => ?_) (fun d hd => by simp [Ck.no] at hd) (fun d hd => by simp [Ck.sto] at hd) (fun d hd => by simp [Ck.no] at hd) Ap.no Ap.ofno
  · refine ⟨by simp [R.lx], fun p r x h1 h2 => ?_, fun p q r s hpq h1 h2 d hd => ?_⟩
    · rcases app_get h1 with ⟨e1, rfl⟩ | ⟨n1, h1⟩
      · rcases app_get h2 with ⟨_, rfl⟩ | ⟨n2, _⟩
        · exact S
        · exact absurd (e1.trans R.lx.symm) n2
      · rcases app_get h2 with ⟨e2, _⟩ | ⟨_, h2⟩
        · exact absurd (e2.trans R.lx) n1
        · exact R.row p r x h1 h2
    · rcases app_get h1 with ⟨e1, rfl⟩ | ⟨_, h1⟩
      · rcases app_get h2 with ⟨e2, _⟩ | ⟨_, h2⟩
        · exact absurd (e1.trans e2.symm) hpq
        · exact fun q2 => jap d (inR q s h2 d q2) hd
      · rcases app_get h2 with ⟨_, rfl⟩ | ⟨_, h2⟩
        · exact jap d (inR p r h1 d hd)
        · exact R.ap p q r s hpq h1 h2 d hd
  · obtain ⟨p, r, q1, _, q3⟩ := mem_rblk.1 hd
    rcases app_get q1 with ⟨_, rfl⟩ | ⟨_, q1⟩
    · exact .inr (.inl q3)
    · exact .inl (inR p r q1 d q3)
/-- Some are picked out: a slice of one's own, of their headers, takes them over. -/
theorem Sy.stoSel (Y : Sy h0 M h cs) (k j : Nat) (hkj : Nat.beq k j = false) (hk : cs[k]? = some (Ck.sto E t2 rs xss)) {ix : List Nat} (hix : ∀ i ∈ ix, i < rs.length) (nd : ix.Nodup) {lA : Option Addr} {lL lC : Nat}
    (hj : cs[j]? = some (Ck.sl eH t1 lA lL lC (ix.map fun i => rs.getD i ⟨none, 0, 0⟩))) :
    Sy h0 M h ((cs.set k Ck.no).set j (Ck.rows E t1 t2 lA lL lC (ix.map fun i => rs.getD i ⟨none, 0, 0⟩) (ix.map fun i => xss.getD i []))) := by
  have hne : k ≠ j := fun e => by subst e; simp at hkj
  have R : StoOK .. := Y.ok hk
  have S : Ownd .. ∧ _ := Y.ok hj
  have ll : ix.length = lL := by have := S.2; simpa using this
  have inR : ∀ (i : Nat) (r : RowH), rs[i]? = some r → ∀ d ∈ blkOf r.a, d ∈ (Ck.sto E t2 rs xss).own := fun i r hr d hd => mem_rblk.2 ⟨i, r, hr, rfl, hd⟩
  have jap : ∀ d ∈ (Ck.sto E t2 rs xss).own, d ∉ blkOf lA := fun d hd => (Y.hp.ap k j _ _ hne hk hj d hd).1
  have gr : ∀ {p : Nat} {r : RowH}, (ix.map fun i => rs.getD i ⟨none, 0, 0⟩)[p]? = some r → ∃ i, ix[p]? = some i ∧ i < rs.length ∧ rs[i]? = some r := by
    intro p r h
    obtain ⟨i, e1, rfl⟩ := mapR_get h
    have hi := hix i (List.mem_of_getElem? e1)
    exact ⟨i, e1, hi, getD_lt hi⟩
  refine Y.mut2 hne hk hj _ _ (Nat.le_refl _) (fun d _ _ => rfl) trivial ?_ (fun d hd => by simp [Ck.no] at hd) (fun d hd => ?_) (fun d hd => by simp [Ck.no] at hd) (fun d hd => by simp [Ck.rows, Ck.rowsG] at hd) Ap.ofno Ap.no
  · refine ⟨by rw [← eH_l]; exact S.1, by simp [ll], by simp [ll], fun p r x h1 h2 _ => ?_, fun p q r s hpq h1 h2 _ _ d hd => ?_, fun p r h1 _ d hd => ?_⟩
    · obtain ⟨i, e1, hi, e2⟩ := gr h1
      obtain ⟨i', e3, rfl⟩ := mapR_get h2
      obtain rfl : i = i' := Option.some.inj (e1.symm.trans e3)
      exact R.row i r _ e2 (getD_lt (by rw [R.lx]; exact hi))
    · obtain ⟨i, e1, hi, e2⟩ := gr h1
      obtain ⟨i', e3, hi', e4⟩ := gr h2
      refine R.ap i i' r s (fun e => ?_) e2 e4 d hd
      subst e
      exact hpq (nodup_inj nd e1 e3)
    · obtain ⟨i, e1, hi, e2⟩ := gr h1
      exact jap d (inR i r e2 d hd)
  · simp only [Ck.rows, Ck.rowsG, List.mem_append] at hd
    rcases hd with hd | hd
    · exact .inr (.inl hd)
    · obtain ⟨p, r, q1, _, q3⟩ := mem_rblk.1 hd
      obtain ⟨i, e1, hi, e2⟩ := gr q1
      exact .inl (inR i r e2 d q3)
end
end Go.X
