/- Two chunks at once: rows that come in, rows that are picked out. Conditions: none. -/
import Derived.Test.YtmcloipjlihhlaaYRow
namespace Go.X
section
variable {α : Type} {E : En α} {h0 h h' : Heap} {M : List Nat} {cs : List Ck} {ty t1 t2 : TypeId} {a : Option Addr} {n c : Nat} {xs ys : List α} {xss : List (List α)} {rs : List RowH} {b o : Nat} {A B : Ck} {k j : Nat}

/-- Two chunks are made others, by what is done to what the first one owns, or new. -/
theorem Sy.mut2 (Y : Sy h0 M h cs) (hkj : k ≠ j) (hk : cs[k]? = some A) (hj : cs[j]? = some B) (A' B' : Ck) (hs : h.size ≤ h'.size) (hb : ∀ b, b < h.size → b ∉ A.own → h'[b]? = h[b]?) (hA : A'.ok h') (hB : B'.ok h')
    (oA : ∀ b ∈ A'.own, b ∈ A.own ∨ b ∈ B.own ∨ h.size ≤ b) (oB : ∀ b ∈ B'.own, b ∈ A.own ∨ b ∈ B.own ∨ h.size ≤ b)
    (rA : ∀ b ∈ A'.rd, (b ∈ A.own ∨ b ∈ A.rd) ∨ (b ∈ B.own ∨ b ∈ B.rd) ∨ h.size ≤ b) (rB : ∀ b ∈ B'.rd, (b ∈ A.own ∨ b ∈ A.rd) ∨ (b ∈ B.own ∨ b ∈ B.rd) ∨ h.size ≤ b)
    (d1 : Ap A' B') (d2 : Ap B' A') : Sy h0 M h' ((cs.set k A').set j B') := by
  have hkl := (List.getElem?_eq_some_iff.1 hk).1
  have hjl := (List.getElem?_eq_some_iff.1 hj).1
  have old : ∀ (p : Nat) (d : Ck), ((cs.set k A').set j B')[p]? = some d → (p = j ∧ d = B') ∨ (p = k ∧ d = A') ∨ (p ≠ j ∧ p ≠ k ∧ cs[p]? = some d) := by
    intro p d hd
    rw [List.getElem?_set] at hd
    split at hd
    · split at hd <;> simp at hd
      rename_i e _; exact .inl ⟨e.symm, hd.symm⟩
    · rename_i e
      rw [List.getElem?_set] at hd
      split at hd
      · rename_i e'; subst e'; simp [hkl] at hd; exact .inr (.inl ⟨rfl, hd.symm⟩)
      · rename_i e'; exact .inr (.inr ⟨fun x => e x.symm, fun x => e' x.symm, hd⟩)
  -- what the new ones own or look at is apart from an old one
  have ap1 : ∀ (p : Nat) (d : Ck), p ≠ j → p ≠ k → cs[p]? = some d → ∀ x, (x ∈ A.own ∨ x ∈ B.own ∨ h.size ≤ x) → x ∉ d.own ∧ x ∉ d.rd := by
    intro p d pj pk hd x hx
    obtain ⟨l1, l2⟩ := d.lt h (Y.hp.ok p d hd)
    rcases hx with hx | hx | hx
    · exact Y.hp.ap k p A d (Ne.symm pk) hk hd x hx
    · exact Y.hp.ap j p B d (Ne.symm pj) hj hd x hx
    · exact ⟨fun q => by have := l1 x q; omega, fun q => by have := l2 x q; omega⟩
  have ap2 : ∀ (p : Nat) (d : Ck), p ≠ j → p ≠ k → cs[p]? = some d → ∀ x ∈ d.own, ¬ ((x ∈ A.own ∨ x ∈ A.rd) ∨ (x ∈ B.own ∨ x ∈ B.rd) ∨ h.size ≤ x) := by
    intro p d pj pk hd x hx q
    obtain ⟨l1, _⟩ := d.lt h (Y.hp.ok p d hd)
    have a1 := Y.hp.ap p k d A pk hd hk x hx
    have a2 := Y.hp.ap p j d B pj hd hj x hx
    rcases q with (q | q) | (q | q) | q
    · exact a1.1 q
    · exact a1.2 q
    · exact a2.1 q
    · exact a2.2 q
    · have := l1 x hx; omega
  have side : ∀ (X : Ck), (∀ b ∈ X.own, b ∈ A.own ∨ b ∈ B.own ∨ h.size ≤ b) → (∀ b ∈ X.rd, (b ∈ A.own ∨ b ∈ A.rd) ∨ (b ∈ B.own ∨ b ∈ B.rd) ∨ h.size ≤ b) → ∀ (p : Nat) (d : Ck), p ≠ j → p ≠ k → cs[p]? = some d → Ap X d ∧ Ap d X := by
    intro X o r p d pj pk hd
    refine ⟨fun x hx => ap1 p d pj pk hd x (o x hx), fun x hx => ⟨fun q => ?_, fun q => ap2 p d pj pk hd x hx (r x q)⟩⟩
    exact (ap1 p d pj pk hd x (o x q)).1 hx
  refine ⟨⟨Nat.le_trans Y.le hs, fun x hx0 hxm => ?_⟩, ⟨fun p d hd => ?_, fun p q d e hpq hd he => ?_⟩, fun p d hd x hx => ?_⟩
  · rw [hb x (Nat.lt_of_lt_of_le hx0 Y.le) fun hxo => ?_]
    · exact Y.fr.blk x hx0 hxm
    · rcases Y.ow k A hk x hxo with q | q
      · exact hxm q
      · omega
  · rcases old p d hd with ⟨_, rfl⟩ | ⟨_, rfl⟩ | ⟨pj, pk, hd⟩
    · exact hB
    · exact hA
    · have hok := Y.hp.ok p d hd
      obtain ⟨l1, l2⟩ := d.lt h hok
      exact d.fr h h' (fun x hx => hb x (l1 x hx) fun q => (Y.hp.ap k p A d (Ne.symm pk) hk hd x q).1 hx)
        (fun x hx => hb x (l2 x hx) fun q => (Y.hp.ap k p A d (Ne.symm pk) hk hd x q).2 hx) hok
  · rcases old p d hd with ⟨p1, rfl⟩ | ⟨p1, rfl⟩ | ⟨pj, pk, hd0⟩
    · rcases old q e he with ⟨q1, _⟩ | ⟨_, rfl⟩ | ⟨qj, qk, he⟩
      · exact absurd (p1.trans q1.symm) hpq
      · exact d2
      · exact (side _ oB rB q e qj qk he).1
    · rcases old q e he with ⟨_, rfl⟩ | ⟨q1, _⟩ | ⟨qj, qk, he⟩
      · exact d1
      · exact absurd (p1.trans q1.symm) hpq
      · exact (side _ oA rA q e qj qk he).1
    · rcases old q e he with ⟨_, rfl⟩ | ⟨_, rfl⟩ | ⟨qj, qk, he⟩
      · exact (side _ oB rB p d pj pk hd0).2
      · exact (side _ oA rA p d pj pk hd0).2
      · exact Y.hp.ap p q d e hpq hd0 he
  · have fin : x ∈ A.own ∨ x ∈ B.own ∨ h.size ≤ x → x ∈ M ∨ h0.size ≤ x := by
      rintro (q | q | q)
      · exact Y.ow k A hk x q
      · exact Y.ow j B hj x q
      · exact .inr (Nat.le_trans Y.le q)
    rcases old p d hd with ⟨_, rfl⟩ | ⟨_, rfl⟩ | ⟨_, _, hd⟩
    · exact fin (oB x hx)
    · exact fin (oA x hx)
    · exact Y.ow p d hd x hx
theorem Ap.no {c : Ck} : Ap c Ck.no := fun _ _ => ⟨by simp [Ck.no], by simp [Ck.no]⟩
theorem Ap.ofno {c : Ck} : Ap Ck.no c := fun _ h => by simp [Ck.no] at h
theorem app_get {β : Type} {l : List β} {x y : β} {p : Nat} (h : (l ++ [x])[p]? = some y) : (p = l.length ∧ y = x) ∨ (p ≠ l.length ∧ l[p]? = some y) := by
  by_cases hp : p < l.length
  · rw [List.getElem?_append_left hp] at h; exact .inr ⟨by omega, h⟩
  · rw [List.getElem?_append_right (by omega)] at h
    have := (List.getElem?_eq_some_iff.1 h).1
    simp at this
    have e0 : p - l.length = 0 := by omega
    rw [e0] at h; simp at h
    exact .inl ⟨by omega, h.symm⟩
/-- A slice of one's own is appended as a row. -/
theorem Sy.appR (Y : Sy h0 M h cs) (k j : Nat) (hkj : Nat.beq k j = false) (hk : cs[k]? = some (Ck.rows E t1 t2 a n c rs xss)) {a' : Option Addr} {n' c' : Nat} {x' : List α} (hj : cs[j]? = some (Ck.sl E t2 a' n' c' x'))
    {sA : Option Addr} {sC : Nat} (ow : Own h' t1 1 sA (n + 1) sC (rs.map RowH.val ++ [.slice a' n' c'])) (f : Fr (blkOf a) h h') (g : (sA = a ∧ sC = c) ∨ ∃ g, sA = some ⟨g, 0, none⟩ ∧ h.size ≤ g) :
    Sy h0 M h' ((cs.set k (Ck.rows E t1 t2 sA (n + 1) sC (rs ++ [⟨a', n', c'⟩]) (xss ++ [x']))).set j Ck.no) := by
  have hne : k ≠ j := fun e => by subst e; simp at hkj
  have R : RowsOK .. := Y.ok hk
  have S : Own .. ∧ _ := Y.ok hj
  have inA : ∀ d ∈ blkOf a, d ∈ (Ck.rows E t1 t2 a n c rs xss).own := fun d hd => List.mem_append_left _ hd
  have inR : ∀ (i : Nat) (r : RowH), rs[i]? = some r → ∀ d ∈ blkOf r.a, d ∈ (Ck.rows E t1 t2 a n c rs xss).own := fun i r hr d hd => List.mem_append_right _ (mem_rblk.2 ⟨i, r, hr, rfl, hd⟩)
  have jap : ∀ d ∈ (Ck.rows E t1 t2 a n c rs xss).own, d ∉ blkOf a' := fun d hd => (Y.hp.ap k j _ _ hne hk hj d hd).1
  have sAb : ∀ d ∈ blkOf sA, d ∈ blkOf a ∨ h.size ≤ d := by
    intro d hd
    rcases g with ⟨rfl, _⟩ | ⟨g, rfl, hg⟩
    · exact .inl hd
    · simp [blkOf] at hd; subst hd; exact .inr hg
  have rlt : ∀ (i : Nat) (r : RowH), rs[i]? = some r → ∀ d ∈ blkOf r.a, d < h.size := fun i r hr d hd => by
    obtain ⟨x, hx⟩ := R.xs hr
    exact (R.row i r x hr hx rfl).1.lt d hd
  have keepB : ∀ (i : Nat) (r : RowH), rs[i]? = some r → ∀ d ∈ blkOf r.a, h'[d]? = h[d]? := fun i r hr d hd => f.blk d (rlt i r hr d hd) (R.na i r hr rfl d hd)
  refine Y.mut2 hne hk hj _ _ f.size (fun d hd hn => f.blk d hd fun q => hn (inA d q)) ?_ trivial (fun d hd => ?_) (fun d hd => by simp [Ck.no] at hd) (fun d hd => by simp [Ck.rows, Ck.rowsG] at hd) (fun d hd => by simp [Ck.no] at hd) Ap.no Ap.ofno
  · refine ⟨by simpa [RowH.val] using ow, by simp [R.ln], by simp [R.lx], fun p r x h1 h2 _ => ?_, fun p q r s hpq h1 h2 _ _ d hd => ?_, fun p r h1 _ d hd => ?_⟩
    · rcases app_get h1 with ⟨e1, rfl⟩ | ⟨n1, h1⟩
      · rcases app_get h2 with ⟨_, rfl⟩ | ⟨n2, _⟩
        · exact ⟨S.1.blk fun d hd => f.blk d (S.1.lt d hd) fun q => jap d (inA d q) hd, S.2⟩
        · exact absurd (e1.trans (R.ln.trans R.lx.symm)) n2
      · rcases app_get h2 with ⟨e2, _⟩ | ⟨_, h2⟩
        · exact absurd (e2.trans (R.lx.trans R.ln.symm)) n1
        · obtain ⟨q1, q2⟩ := R.row p r x h1 h2 rfl
          exact ⟨q1.blk fun d hd => keepB p r h1 d hd, q2⟩
    · rcases app_get h1 with ⟨e1, rfl⟩ | ⟨_, h1⟩
      · rcases app_get h2 with ⟨e2, _⟩ | ⟨_, h2⟩
        · exact absurd (e1.trans e2.symm) hpq
        · exact fun q2 => jap d (inR q s h2 d q2) hd
      · rcases app_get h2 with ⟨_, rfl⟩ | ⟨_, h2⟩
        · exact jap d (inR p r h1 d hd)
        · exact R.ap p q r s hpq h1 h2 rfl rfl d hd
    · intro q
      rcases app_get h1 with ⟨_, rfl⟩ | ⟨_, h1⟩
      · rcases sAb d q with q | q
        · exact jap d (inA d q) hd
        · have := S.1.lt d hd; omega
      · rcases sAb d q with q | q
        · exact R.na p r h1 rfl d hd q
        · have := rlt p r h1 d hd; omega
  · simp only [Ck.rows, Ck.rowsG, List.mem_append] at hd
    rcases hd with hd | hd
    · rcases sAb d hd with q | q
      · exact .inl (inA d q)
      · exact .inr (.inr q)
    · obtain ⟨p, r, q1, _, q3⟩ := mem_rblk.1 hd
      rcases app_get q1 with ⟨_, rfl⟩ | ⟨_, q1⟩
      · exact .inr (.inl q3)
      · exact .inl (inR p r q1 d q3)
/-- What stands behind a pointer that may be nil. -/
def Ck.opt (w : Bool) (c : Ck) : Ck :=
  match w with
  | true => Ck.no
  | false => c
def optA (w : Bool) (b : Nat) : Option Addr :=
  match w with
  | true => none
  | false => some ⟨b, 0, none⟩
theorem appB {n k : Nat} (h : n < 1000000000000) (hk : k ≤ 140) : n * k ≤ 140737488355328 := Nat.le_trans (Nat.mul_le_mul (Nat.le_of_lt h) hk) (by decide)
theorem appM {n : Nat} (h : n < 1000000000000) : n ≤ maxLen := by simp only [maxLen]; omega
theorem Sy.addNo (Y : Sy h0 M h cs) : Sy h0 M h (cs ++ [Ck.no]) := Y.addN _ trivial rfl rfl
theorem Sy.ownR (Y : Sy h0 M h cs) (k : Nat) (hk : cs[k]? = some (Ck.rows E t1 t2 a n c rs xss)) : Own h t1 1 a n c (rs.map RowH.val) := (Y.ok hk : RowsOK ..).out
theorem Sy.nJR (Y : Sy h0 M h cs) (k j : Nat) (hkj : Nat.beq k j = false) (hk : cs[k]? = some (Ck.rows E t1 t2 a n c rs xss)) {x : Nat} (hj : cs[j]? = some (Ck.junk x)) : x ∉ blkOf a := by
  have hne : k ≠ j := fun e => by subst e; simp at hkj
  exact fun hx => (Y.hp.ap k j _ _ hne hk hj x (List.mem_append_left _ hx)).1 (by simp [Ck.junk])
theorem mapR_get {β : Type} {l : List β} {d0 : β} {ix : List Nat} {p : Nat} {x : β} (h : (ix.map fun i => l.getD i d0)[p]? = some x) : ∃ i, ix[p]? = some i ∧ x = l.getD i d0 := by
  rw [List.getElem?_map] at h
  cases e : ix[p]? with
  | none => rw [e] at h; cases h
  | some i => rw [e] at h; exact ⟨i, rfl, (Option.some.inj h).symm⟩
theorem nodup_inj {β : Type} {l : List β} (nd : l.Nodup) {p q : Nat} {x : β} (hp : l[p]? = some x) (hq : l[q]? = some x) : p = q := by
  obtain ⟨l1, g1⟩ := List.getElem?_eq_some_iff.1 hp
  obtain ⟨l2, g2⟩ := List.getElem?_eq_some_iff.1 hq
  rcases Nat.lt_trichotomy p q with h | h | h
  · exact absurd (g1.trans g2.symm) (List.pairwise_iff_getElem.1 nd p q l1 l2 h)
  · exact h
  · exact absurd (g2.trans g1.symm) (List.pairwise_iff_getElem.1 nd q p l2 l1 h)
theorem getD_lt {β : Type} {l : List β} {d0 : β} {i : Nat} (h : i < l.length) : l[i]? = some (l.getD i d0) := by
  rw [List.getElem?_eq_getElem h, List.getD_eq_getElem?_getD, List.getElem?_eq_getElem h]; rfl
/-- Rows are picked out: a slice of one's own, of headers of rows, takes these rows over. -/
theorem Sy.selR (Y : Sy h0 M h cs) (k j : Nat) (hkj : Nat.beq k j = false) (hk : cs[k]? = some (Ck.rows E t1 t2 a n c rs xss)) {ix : List Nat} (hix : ∀ i ∈ ix, i < n) (nd : ix.Nodup) {lA : Option Addr} {lL lC : Nat}
    (hj : cs[j]? = some (Ck.sl eH t1 lA lL lC (ix.map fun i => rs.getD i ⟨none, 0, 0⟩))) :
    Sy h0 M h ((cs.set k Ck.no).set j (Ck.rows E t1 t2 lA lL lC (ix.map fun i => rs.getD i ⟨none, 0, 0⟩) (ix.map fun i => xss.getD i []))) := by
  have hne : k ≠ j := fun e => by subst e; simp at hkj
  have R : RowsOK .. := Y.ok hk
  have S : Own .. ∧ _ := Y.ok hj
  have ll : ix.length = lL := by have := S.2; simpa using this
  have inR : ∀ (i : Nat) (r : RowH), rs[i]? = some r → ∀ d ∈ blkOf r.a, d ∈ (Ck.rows E t1 t2 a n c rs xss).own := fun i r hr d hd => List.mem_append_right _ (mem_rblk.2 ⟨i, r, hr, rfl, hd⟩)
  have jap : ∀ d ∈ (Ck.rows E t1 t2 a n c rs xss).own, d ∉ blkOf lA := fun d hd => (Y.hp.ap k j _ _ hne hk hj d hd).1
  have gr : ∀ {p : Nat} {r : RowH}, (ix.map fun i => rs.getD i ⟨none, 0, 0⟩)[p]? = some r → ∃ i, ix[p]? = some i ∧ i < n ∧ rs[i]? = some r := by
    intro p r h
    obtain ⟨i, e1, rfl⟩ := mapR_get h
    have hi := hix i (List.mem_of_getElem? e1)
    exact ⟨i, e1, hi, getD_lt (by rw [R.ln]; exact hi)⟩
  refine Y.mut2 hne hk hj _ _ (Nat.le_refl _) (fun d _ _ => rfl) trivial ?_ (fun d hd => by simp [Ck.no] at hd) (fun d hd => ?_) (fun d hd => by simp [Ck.no] at hd) (fun d hd => by simp [Ck.rows, Ck.rowsG] at hd) Ap.ofno Ap.no
  · refine ⟨by rw [← eH_l]; exact S.1, by simp [ll], by simp [ll], fun p r x h1 h2 _ => ?_, fun p q r s hpq h1 h2 _ _ d hd => ?_, fun p r h1 _ d hd => ?_⟩
    · obtain ⟨i, e1, hi, e2⟩ := gr h1
      obtain ⟨i', e3, rfl⟩ := mapR_get h2
      obtain rfl : i = i' := Option.some.inj (e1.symm.trans e3)
      exact R.row i r _ e2 (getD_lt (by rw [R.lx]; exact hi)) rfl
    · obtain ⟨i, e1, hi, e2⟩ := gr h1
      obtain ⟨i', e3, hi', e4⟩ := gr h2
      refine R.ap i i' r s (fun e => ?_) e2 e4 rfl rfl d hd
      subst e
      obtain ⟨l1, g1⟩ := List.getElem?_eq_some_iff.1 e1
      obtain ⟨l2, g2⟩ := List.getElem?_eq_some_iff.1 e3
      exact hpq (nodup_inj nd e1 e3)
    · obtain ⟨i, e1, hi, e2⟩ := gr h1
      exact jap d (inR i r e2 d hd)
  · simp only [Ck.rows, Ck.rowsG, List.mem_append] at hd
    rcases hd with hd | hd
    · exact .inr (.inl hd)
    · obtain ⟨p, r, q1, _, q3⟩ := mem_rblk.1 hd
      obtain ⟨i, e1, hi, e2⟩ := gr q1
      exact .inl (inR i r e2 d q3)
end
/-- A view twice. -/
theorem Sy.dup {h0 h : Heap} {M : List Nat} {cs : List Ck} {d : Ck} (Y : Sy h0 M h cs) (k : Nat) (hk : cs[k]? = some d) (ho : d.own = []) : Sy h0 M h (d :: cs) :=
  ⟨Y.fr, Y.hp.dup k hk ho, fun i c hc b hb => by
    match i with
    | 0 => rw [List.getElem?_cons_zero] at hc; obtain rfl := Option.some.inj hc; rw [ho] at hb; cases hb
    | i + 1 => exact Y.ow i c (by simpa using hc) b hb⟩
end Go.X
