/- Checks of the shortest digits, exponent by exponent. Conditions: none. -/
import Derived.Test.YtfjflbapojgbhaaGreatDoorWAtofIn
import Derived.Test.YtfjflbapojgbhaaGreatDoorWBeg
import Derived.Test.YtfjflbapojgbhaaGreatDoorWLaw2
namespace Go.Proofs.YtfjflbapojgbhaaGreatDoor.N
open Go.X Go.Proofs.YtfjflbapojgbhaaGreatDoor
set_option maxRecDepth 100000
set_option maxHeartbeats 1000000

def okB (k : Nat) : Bool :=
  let e := (k : Int) - 1074
  decide (10 ^ (-(-l10 e)).toNat * W 0 ≤ W e * 10 ^ (-l10 e).toNat) && decide (4 * (10 ^ (-(-skw e)).toNat * W 0) ≤ 3 * (W e * 10 ^ (-skw e).toNat)) && decide (l2 (skw e) ≤ e) && decide (e ≤ l2 (skw e) + 5)
end Go.Proofs.YtfjflbapojgbhaaGreatDoor.N

/- The shortest digits lie where they are rounded back. Conditions: none. -/
namespace Go.Proofs.YtfjflbapojgbhaaGreatDoor.N
open Go.X Go.Proofs.YtfjflbapojgbhaaGreatDoor
set_option maxRecDepth 100000
set_option maxHeartbeats 1000000

theorem In.scale {Y d Y' d' M : Nat} {e : Int} (hd : 0 < d) (h : In Y d M e) (hY : Y * d' = Y' * d) (hd' : 0 < d') : In Y' d' M e := by
  obtain ⟨a1, a2, a3, a4, a5, a6, a7, a8⟩ := h
  have le1 : ∀ c, Y ≤ c * (W e * d) → Y' ≤ c * (W e * d') := fun c hc => by
    refine Nat.le_of_mul_le_mul_right (c := d) ?_ hd
    rw [← hY]
    calc Y * d' ≤ c * (W e * d) * d' := Nat.mul_le_mul_right _ hc
      _ = _ := by ac_rfl
  have lt1 : ∀ c, Y < c * (W e * d) → Y' < c * (W e * d') := fun c hc => by
    refine Nat.lt_of_mul_lt_mul_right (a := d) ?_
    rw [← hY]
    calc Y * d' < c * (W e * d) * d' := Nat.mul_lt_mul_of_pos_right hc hd'
      _ = _ := by ac_rfl
  have le2 : ∀ c k, c * (W e * d) ≤ Y + k * (W e * d) → c * (W e * d') ≤ Y' + k * (W e * d') := fun c k hc => by
    refine Nat.le_of_mul_le_mul_right (c := d) ?_ hd
    rw [Nat.add_mul, ← hY]
    calc c * (W e * d') * d = c * (W e * d) * d' := by ac_rfl
      _ ≤ (Y + k * (W e * d)) * d' := Nat.mul_le_mul_right _ hc
      _ = Y * d' + k * (W e * d) * d' := Nat.add_mul _ _ _
      _ = _ := by congr 1; ac_rfl
  have lt2 : ∀ c k, c * (W e * d) < Y + k * (W e * d) → c * (W e * d') < Y' + k * (W e * d') := fun c k hc => by
    refine Nat.lt_of_mul_lt_mul_right (a := d) ?_
    rw [Nat.add_mul, ← hY]
    calc c * (W e * d') * d = c * (W e * d) * d' := by ac_rfl
      _ < (Y + k * (W e * d)) * d' := Nat.mul_lt_mul_of_pos_right hc hd'
      _ = Y * d' + k * (W e * d) * d' := Nat.add_mul _ _ _
      _ = _ := by congr 1; ac_rfl
  refine ⟨a1, a2, a3, le1 _ a4, fun h => lt1 _ (a5 h), le2 _ 2 a6, fun h => lt2 _ 2 (a7 h), fun h1 h2 => ?_⟩
  have := le2 (4 * M) 1 (by rw [Nat.one_mul]; exact a8 h1 h2)
  rwa [Nat.one_mul] at this
/-- What the three scaled numbers say. -/
structure Sh (m : Nat) (ev : Int) : Prop where
  B : 0 < W (ev + zOf ev) * ten (shP m ev)
  T : 0 < tenn (shP m ev) * W 0
  mx : scl (shMax m ev) ev (shP m ev) = uex ((2 * (m / 2 ^ zOf ev) + 1) * (2 * (W (ev + zOf ev) * ten (shP m ev)))) (tenn (shP m ev) * W 0)
  md : scl m ev (shP m ev) = uex (2 * (m / 2 ^ zOf ev) * (2 * (W (ev + zOf ev) * ten (shP m ev)))) (tenn (shP m ev) * W 0)
  mn : ∃ k, (k = 1 ∨ k = 2) ∧ (shA m ev = true → k = 1) ∧ (shA m ev = false → k = 2) ∧ ∃ N, N + k * (W (ev + zOf ev) * ten (shP m ev)) = 4 * (m / 2 ^ zOf ev) * (W (ev + zOf ev) * ten (shP m ev)) ∧ scl (shMin m ev) ev (shP m ev) = uex N (tenn (shP m ev) * W 0)
  lx : scl (shMax m ev) ev (shP m ev) < 4611686018427387904
  ln : scl (shMin m ev) ev (shP m ev) < 4611686018427387904
  ld : scl m ev (shP m ev) < 4611686018427387904
  sm : W (ev + zOf ev) * ten (shP m ev) < 16 * (tenn (shP m ev) * W 0)
end Go.Proofs.YtfjflbapojgbhaaGreatDoor.N

/- The shortest digits are rounded back to their float. Conditions: none. -/
namespace Go.Proofs.YtfjflbapojgbhaaGreatDoor.N
open Go.X Go.Proofs.YtfjflbapojgbhaaGreatDoor
set_option maxRecDepth 100000
set_option maxHeartbeats 1000000

end Go.Proofs.YtfjflbapojgbhaaGreatDoor.N

/- What the scan makes of a text of digits, a point, and an exponent. Conditions: none. -/
namespace Go.Proofs.YtfjflbapojgbhaaGreatDoor.N
open Go.X Go.Proofs.YtfjflbapojgbhaaGreatDoor
set_option maxRecDepth 100000
set_option maxHeartbeats 1000000

abbrev fD (A : List UInt8) (st : RS) : RS := A.foldl (fun s c => stepD s (dgt c)) st
/-- The digits' number, from a start. -/
def decF (A : List UInt8) (a : Nat) : Nat := A.foldl (fun a c => a * 10 + dgt c) a
theorem decF_app (A B : List UInt8) (a : Nat) : decF (A ++ B) a = decF B (decF A a) := List.foldl_append
theorem fold_few : ∀ (A : List UInt8) (st : RS), st.nm = st.nd → (st.nd = 0 → st.m = 0) → st.nm + A.length ≤ 19 →
    (fD A st).m = decF A st.m ∧ (fD A st).tr = st.tr ∧ (fD A st).nm = (fD A st).nd ∧ (fD A st).nm ≤ st.nm + A.length ∧ (fD A st).dp - (fD A st).nm = st.dp - st.nm - A.length ∧ ((fD A st).nd = 0 → (fD A st).m = 0)
  | [], st, h1, h2, h3 => ⟨rfl, rfl, h1, Nat.le_refl _, by simp [fD], h2⟩
  | c :: A, st, h1, h2, h3 => by
    simp only [List.length_cons] at h3 ⊢
    have e : fD (c :: A) st = fD A (stepD st (dgt c)) := rfl
    have ed : decF (c :: A) st.m = decF A (st.m * 10 + dgt c) := rfl
    rw [e, ed]
    by_cases hz : dgt c = 0 ∧ st.nd = 0
    · have es : stepD st (dgt c) = ⟨st.m, st.tr, st.dot, true, st.nd, st.nm, st.dp - 1⟩ := by unfold stepD; rw [if_pos hz]
      have := fold_few A (stepD st (dgt c)) (by rw [es]; exact h1) (by rw [es]; exact h2) (by rw [es]; show st.nm + _ ≤ 19; omega)
      rw [es] at this ⊢
      obtain ⟨a1, a2, a3, a4, a5, a6⟩ := this
      refine ⟨?_, a2, a3, ?_, ?_, a6⟩
      · rw [a1, hz.1, h2 hz.2]
      · dsimp only at a4; omega
      · dsimp only at a5; omega
    · have es : stepD st (dgt c) = ⟨st.m * 10 + dgt c, st.tr, st.dot, true, st.nd + 1, st.nm + 1, st.dp⟩ := by unfold stepD; rw [if_neg hz, if_pos (by omega)]
      have := fold_few A (stepD st (dgt c)) (by rw [es]; show st.nm + 1 = st.nd + 1; omega) (by rw [es]; intro h; exact absurd h (by simp)) (by rw [es]; show st.nm + 1 + _ ≤ 19; omega)
      rw [es] at this ⊢
      obtain ⟨a1, a2, a3, a4, a5, a6⟩ := this
      refine ⟨a1, a2, a3, ?_, ?_, a6⟩
      · dsimp only at a4; omega
      · dsimp only at a5; omega
theorem fold_dot' (A : List UInt8) (st : RS) : (fD A st).dot = st.dot := fold_dot A st
/-- Behind the sign: digits, a point with digits or none, an exponent or none. -/
structure Form (l A B X : List UInt8) (pt : Bool) : Prop where
  eq : l = A ++ ((if pt then 46 :: B else []) ++ X)
  a : A ≠ []
  ad : ∀ c ∈ A, isD c = true
  b : pt = true → B ≠ []
  b0 : pt = false → B = []
  bd : ∀ c ∈ B, isD c = true
  x : X = [] ∨ ∃ c sg ds, Expo X c sg ds
  x4 : ∀ c sg ds, Expo X c sg ds → ds.length ≤ 4
theorem exp_stop {q : List UInt8} {st : RS} (hq : q = [] ∨ ∃ c sg ds, Expo q c sg ds) : scan st q = (st, q) := by
  refine scan_stop fun c r e => .inl ?_
  rcases hq with rfl | ⟨c', sg, ds, hE⟩
  · cases e
  · rw [hE.eq] at e
    have : c' = c := (List.cons.inj e).1
    rw [← this]
    rcases hE.e with rfl | rfl <;> decide
theorem exp_head {q : List UInt8} (hq : q = [] ∨ ∃ c sg ds, Expo q c sg ds) : ∀ c r, q = c :: r → isD c = false := by
  intro c r e
  rcases hq with rfl | ⟨c', sg, ds, hE⟩
  · cases e
  · rw [hE.eq] at e
    have : c' = c := (List.cons.inj e).1
    rw [← this]
    rcases hE.e with rfl | rfl <;> decide
theorem dgN_app : ∀ {A t : List UInt8}, (∀ c ∈ A, isD c = true) → (∀ c r, t = c :: r → isD c = false) → dgN (A ++ t) = A.length
  | [], t, _, ht => by
    cases t with
    | nil => rfl
    | cons c r => unfold dgN; rw [List.nil_append, List.takeWhile_cons, if_neg (by rw [ht c r rfl]; decide)]
  | c :: A, t, hA, ht => by
    have := dgN_app (A := A) (fun d hd => hA d (by simp [hd])) ht
    unfold dgN at this ⊢
    rw [List.cons_append, List.takeWhile_cons, if_pos (hA c (by simp)), List.length_cons, this, List.length_cons]
theorem Form.scn {l A B X : List UInt8} {pt : Bool} (h : Form l A B X pt) : scan RS0 l = (fD B (if pt then dotS (fD A RS0) else fD A RS0), X) := by
  rw [h.eq, scan_app A RS0 _ h.ad]
  have hdot : (fD A RS0).dot = false := fold_dot A RS0
  cases pt
  · have hB := h.b0 rfl
    subst hB
    exact exp_stop h.x
  · show scan (fD A RS0) (46 :: B ++ X) = _
    rw [List.cons_append, scan, if_pos rfl, hdot]
    show scan (dotS (fD A RS0)) (B ++ X) = _
    rw [scan_app B _ X h.bd]
    exact exp_stop h.x
theorem expF_of {X : List UInt8} (hx : X = [] ∨ ∃ c sg ds, Expo X c sg ds) (h4 : ∀ c sg ds, Expo X c sg ds → ds.length ≤ 4) : expF (some X) = true := by
  rcases hx with rfl | ⟨c, sg, ds, hE⟩
  · rfl
  · have hl := h4 c sg ds hE
    have hne : 1 ≤ ds.length := by
      cases ds with
      | nil => exact absurd rfl hE.ne
      | cons _ _ => simp
    have hd : dropS (sg ++ ds) = ds := by
      rcases hE.sg with rfl | rfl | rfl
      · cases ds with
        | nil => rfl
        | cons a r =>
          have ha := isD_iff.1 (hE.dg a (by simp))
          show (if a = 43 ∨ a = 45 then r else a :: r) = a :: r
          rw [if_neg]
          rintro (e | e) <;> subst e <;> exact absurd ha (by decide)
      · rfl
      · rfl
    rw [hE.eq]
    show (if c = 101 ∨ c = 69 then _ else _) = true
    rw [if_pos hE.e, hd]
    have hn : dgN ds = ds.length := by
      have := dgN_app (A := ds) (t := []) hE.dg (fun c r e => by cases e)
      rwa [List.append_nil] at this
    rw [hn]
    simp; omega
/-- Such a text is a number's. -/
theorem Form.num {l0 l A B X : List UInt8} {pt : Bool} (h : Form l A B X pt) (h0 : dropS l0 = l) : numF l0 = true := by
  unfold numF
  rw [h0, h.eq]
  have ht : ∀ c r, ((if pt then 46 :: B else []) ++ X) = c :: r → isD c = false := by
    intro c r e
    cases pt
    · exact exp_head h.x c r e
    · have : (46 : UInt8) = c := (List.cons.inj e).1
      rw [← this]; decide
  have hA : A.length ≠ 0 := fun e => h.a (List.eq_nil_of_length_eq_zero e)
  rw [dgN_app h.ad ht, if_neg hA, List.drop_left]
  cases pt
  · show expF (pntF X) = true
    have : pntF X = some X := by
      cases hX : X with
      | nil => rfl
      | cons c r =>
        show (if c = 46 then _ else some (c :: r)) = _
        rw [if_neg]
        intro e; subst e
        rcases h.x with e | ⟨c', sg, ds, hE⟩
        · rw [hX] at e; cases e
        · have := hE.eq; rw [hX] at this
          have := (List.cons.inj this).1
          rcases hE.e with e | e <;> rw [e] at this <;> cases this
    rw [this]; exact expF_of h.x h.x4
  · show expF (pntF (46 :: (B ++ X))) = true
    have hB : B.length ≠ 0 := fun e => h.b rfl (List.eq_nil_of_length_eq_zero e)
    have : pntF (46 :: (B ++ X)) = some X := by
      show (if (46 : UInt8) = 46 then (if dgN (B ++ X) = 0 then none else some ((B ++ X).drop (dgN (B ++ X)))) else some (46 :: (B ++ X))) = _
      rw [if_pos rfl, dgN_app h.bd (exp_head h.x), if_neg hB, List.drop_left]
    rw [this]; exact expF_of h.x h.x4
/-- Its number and its exponent. -/
theorem Form.val {l A B X : List UInt8} {pt : Bool} (h : Form l A B X pt) (h19 : A.length + B.length ≤ 19) :
    (fD B (if pt then dotS (fD A RS0) else fD A RS0)).m = decF (A ++ B) 0 ∧ (fD B (if pt then dotS (fD A RS0) else fD A RS0)).tr = false ∧ (decF (A ++ B) 0 ≠ 0 → expV (fD B (if pt then dotS (fD A RS0) else fD A RS0)) X = eVal X - B.length) := by
  obtain ⟨a1, a2, a3, a4, a5, a6⟩ := fold_few A RS0 rfl (fun _ => rfl) (by show 0 + _ ≤ 19; omega)
  have r0 : RS0.m = 0 ∧ RS0.nm = 0 ∧ RS0.tr = false := ⟨rfl, rfl, rfl⟩
  rw [r0.1] at a1
  rw [r0.2.1] at a4
  have hdot : (fD A RS0).dot = false := fold_dot A RS0
  rw [decF_app, ← a1]
  cases pt
  · have hB := h.b0 rfl
    subst hB
    refine ⟨rfl, a2, fun hne => ?_⟩
    show expV (fD A RS0) X = _
    unfold expV
    have hne : (fD A RS0).m ≠ 0 := hne
    rw [if_pos hne, hdot]
    simp only [Bool.false_eq_true, if_false, List.length_nil]
    omega
  · have hd : dotS (fD A RS0) = ⟨(fD A RS0).m, (fD A RS0).tr, true, (fD A RS0).dig, (fD A RS0).nd, (fD A RS0).nm, (fD A RS0).nd⟩ := rfl
    obtain ⟨b1, b2, b3, b4, b5, b6⟩ := fold_few B (dotS (fD A RS0)) a3 a6 (by show (fD A RS0).nm + _ ≤ 19; omega)
    show (fD B (dotS (fD A RS0))).m = _ ∧ (fD B (dotS (fD A RS0))).tr = false ∧ _
    refine ⟨b1, b2.trans a2, fun hne => ?_⟩
    show expV (fD B (dotS (fD A RS0))) X = _
    unfold expV
    rw [if_pos (by rw [b1]; exact hne), fold_dot' B]
    have e1 : (dotS (fD A RS0)).dot = true := rfl
    rw [e1]
    have e2 : (dotS (fD A RS0)).dp = ((fD A RS0).nd : Int) := rfl
    have e3 : (dotS (fD A RS0)).nm = (fD A RS0).nm := rfl
    rw [e2, e3] at b5
    simp only [if_true]
    omega
/-- Read: it is a number's text. -/
theorem Form.txt {s : ByteArray} {l A B X : List UInt8} {pt : Bool} (h : Form l A B X pt) (h0 : dropS s.data.toList = l) (hs : s.size < 100000) : Txt s (fD B (if pt then dotS (fD A RS0) else fD A RS0)) X := by
  obtain ⟨st, rest, hT⟩ := txt_of_num hs (h.num h0)
  have := hT.sc
  rw [drop_sgn, h0, h.scn] at this
  obtain ⟨rfl, rfl⟩ := Prod.mk.inj this
  exact hT
end Go.Proofs.YtfjflbapojgbhaaGreatDoor.N

/- A number's text is read as it. Conditions: none. -/
namespace Go.Proofs.YtfjflbapojgbhaaGreatDoor.N
open Go.X Go.Proofs.YtfjflbapojgbhaaGreatDoor
set_option maxRecDepth 100000
set_option maxHeartbeats 1000000

def by8 (n : Int) : UInt8 := UInt8.ofNat n.toNat
def bb (L : List Int) : List UInt8 := L.map by8
def dig (v : Int) : Prop := 48 ≤ v ∧ v ≤ 57
theorem by_nat {v : Int} (h : dig v) : (by8 v).toNat = v.toNat := by
  unfold by8; rw [UInt8.toNat_ofNat']; unfold dig at h; omega
theorem by_dig {v : Int} (h : dig v) : isD (by8 v) = true := isD_iff.2 (by rw [by_nat h]; unfold dig at h; omega)
theorem bb_dig {L : List Int} (h : ∀ v ∈ L, dig v) : ∀ c ∈ bb L, isD c = true := by
  intro c hc
  obtain ⟨v, hv, rfl⟩ := List.mem_map.1 hc
  exact by_dig (h v hv)
theorem decF_rep (a : Nat) : ∀ j, decF (bb (List.replicate j 48)) a = a * 10 ^ j
  | 0 => by rw [Nat.pow_zero, Nat.mul_one]; rfl
  | j + 1 => by
    rw [List.replicate_succ]
    show decF (bb (List.replicate j 48)) (a * 10 + dgt (by8 48)) = _
    rw [decF_rep]
    have : dgt (by8 48) = 0 := by decide
    rw [this, Nat.add_zero, Nat.pow_succ, Nat.mul_assoc, Nat.mul_comm (10 ^ j)]
theorem rep_dig (j : Nat) : ∀ v ∈ List.replicate j (48 : Int), dig v := by
  intro v hv; rw [List.eq_of_mem_replicate hv]; unfold dig; omega
theorem fold_lead : ∀ (z : Nat) (st : RS), st.nd = 0 → ∃ g, fD (bb (List.replicate z 48)) st = ⟨st.m, st.tr, st.dot, g, 0, st.nm, st.dp - z⟩
  | 0, st, h => ⟨st.dig, by
    show st = _
    obtain ⟨a, b, c, d, e, f, g⟩ := st
    have h : e = 0 := h
    subst h
    simp⟩
  | z + 1, st, h => by
    rw [List.replicate_succ]
    have e0 : dgt (by8 48) = 0 := by decide
    have e : fD (bb (48 :: List.replicate z 48)) st = fD (bb (List.replicate z 48)) (stepD st (dgt (by8 48))) := rfl
    have es : stepD st (dgt (by8 48)) = ⟨st.m, st.tr, st.dot, true, st.nd, st.nm, st.dp - 1⟩ := by unfold stepD; rw [if_pos ⟨e0, h⟩]
    obtain ⟨g, hg⟩ := fold_lead z (stepD st (dgt (by8 48))) (by rw [es]; exact h)
    rw [e, hg, es]
    exact ⟨g, by simp; omega⟩
/-- What the scan makes of it. -/
structure Read (l : List UInt8) (c : Nat) (q : Int) (j : Nat) : Prop where
  sc : ∀ s : ByteArray, dropS s.data.toList = l → s.size < 100000 → ∃ st X, Txt s st X ∧ st.tr = false ∧ st.m = c * 10 ^ j ∧ (st.m ≠ 0 → expV st X = q - j)
  nm : ∀ l0, dropS l0 = l → numF l0 = true
  hd : ∃ a r, l = a :: r ∧ isD a = true
theorem Form.read {l A B X : List UInt8} {pt : Bool} {c j : Nat} {q : Int} (h : Form l A B X pt) (h19 : A.length + B.length ≤ 19) (hv : decF (A ++ B) 0 = c * 10 ^ j) (he : eVal X - B.length = q - j) : Read l c q j := by
  refine ⟨fun s h0 hs => ?_, fun l0 h0 => h.num h0, ?_⟩
  · obtain ⟨v1, v2, v3⟩ := h.val h19
    exact ⟨_, X, h.txt h0 hs, v2, v1.trans hv, fun hne => (v3 (by rw [← v1]; exact hne)).trans he⟩
  · obtain ⟨a, A', rfl⟩ := List.exists_cons_of_ne_nil h.a
    exact ⟨a, _, h.eq, h.ad a (by simp)⟩
end Go.Proofs.YtfjflbapojgbhaaGreatDoor.N

/- WeighBack: a number's text leads back to it. Conditions: none. -/
namespace Go.Proofs.YtfjflbapojgbhaaGreatDoor.N
open Go.X Go.Proofs.YtfjflbapojgbhaaGreatDoor
set_option maxRecDepth 100000
set_option maxHeartbeats 1000000

theorem drop_sign {ng : Bool} {l : List UInt8} (h : ∃ a r, l = a :: r ∧ isD a = true) : dropS ((if ng then [45] else []) ++ l) = l ∧ (sgnOf ((if ng then [45] else []) ++ l)).1 = ng := by
  obtain ⟨a, r, rfl, ha⟩ := h
  have hd := isD_iff.1 ha
  have n1 : a ≠ 43 := fun e => by subst e; exact absurd hd (by decide)
  have n2 : a ≠ 45 := fun e => by subst e; exact absurd hd (by decide)
  cases ng
  · refine ⟨?_, ?_⟩
    · show (if a = 43 ∨ a = 45 then r else a :: r) = a :: r
      rw [if_neg]; rintro (e | e); exact n1 e; exact n2 e
    · show (if a = 43 then (false, 1) else if a = 45 then (true, 1) else (false, 0)).1 = false
      rw [if_neg n1, if_neg n2]
  · exact ⟨rfl, rfl⟩
theorem size_list (s : ByteArray) : s.size = s.data.toList.length := rfl
theorem neg_neg (x : Nat) : negM (negM x) = x := by
  show x ^^^ 2 ^ 63 ^^^ 2 ^ 63 = x
  rw [Nat.xor_assoc, Nat.xor_self, Nat.xor_zero]
end Go.Proofs.YtfjflbapojgbhaaGreatDoor.N
