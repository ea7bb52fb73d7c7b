/- Package kura: a net whose chosen edges are paths, one for each edge of another net, is of that form. Conditions: none. -/
import Derived.Test.YtmcloipjlihhlaaNKuraL
set_option linter.unusedSimpArgs false
set_option linter.unusedVariables false
namespace Go.Proofs.Ytmcloipjlihhlaa.N
open Go.X Go.Proofs.Ytmcloipjlihhlaa
set_option maxRecDepth 100000

def frE (es : Es) (e : Nat) : Int := (es.getD e (0, 0)).1
def toE (es : Es) (e : Nat) : Int := (es.getD e (0, 0)).2
/-- For each edge of a net: a path of edges, each the way it leads, and the nodes between them. -/
def Webs (es : Es) : List (Int × Int) → List (List Nat) → List (List Int) → Prop
  | [], [], [] => True
  | q :: B, p :: P, I :: J => p.map (frE es) = q.1 :: I ∧ p.map (toE es) = I ++ [q.2] ∧ Webs es B P J
  | _, _, _ => False
theorem webs_same {es es' : Es} : ∀ {B : List (Int × Int)} {P : List (List Nat)} {J : List (List Int)}, (∀ e ∈ P.flatten, frE es' e = frE es e ∧ toE es' e = toE es e) → Webs es B P J → Webs es' B P J
  | [], [], [], _, _ => trivial
  | q :: B, p :: P, I :: J, h, ⟨a, b, c⟩ => by
    refine ⟨?_, ?_, webs_same (fun e he => h e (by rw [List.flatten_cons]; exact List.mem_append_right _ he)) c⟩
    · rw [← a]; exact List.map_congr_left fun e he => (h e (by rw [List.flatten_cons]; exact List.mem_append_left _ he)).1
    · rw [← b]; exact List.map_congr_left fun e he => (h e (by rw [List.flatten_cons]; exact List.mem_append_left _ he)).2
  | [], [], _ :: _, _, h => h.elim
  | [], _ :: _, _, _, h => h.elim
  | _ :: _, [], _, _, h => h.elim
  | _ :: _, _ :: _, [], _, h => h.elim
theorem webs_mem {es : Es} : ∀ {B : List (Int × Int)} {P : List (List Nat)} {J : List (List Int)}, Webs es B P J → ∀ p ∈ P, ∃ q ∈ B, ∃ I ∈ J, p.map (frE es) = q.1 :: I ∧ p.map (toE es) = I ++ [q.2]
  | [], [], [], _, p, hp => by cases hp
  | q :: B, p :: P, I :: J, ⟨a, b, c⟩, x, hx => by
    rcases List.mem_cons.1 hx with rfl | hx
    · exact ⟨q, by simp, I, by simp, a, b⟩
    · obtain ⟨q', h1, I', h2, h3⟩ := webs_mem c x hx
      exact ⟨q', by simp [h1], I', by simp [h2], h3⟩
  | [], [], _ :: _, h, _, _ => h.elim
  | [], _ :: _, _, h, _, _ => h.elim
  | _ :: _, [], _, h, _, _ => h.elim
  | _ :: _, _ :: _, [], h, _, _ => h.elim
/-- A path, an edge of it split. -/
theorem path_split {f t f' t' : Nat → Int} {A C : List Nat} {k m : Nat} {n u v : Int} {I : List Int} (h1 : ∀ e ∈ A ++ C, f' e = f e ∧ t' e = t e) (fk : f' k = f k) (tk : t' k = n) (fm : f' m = n) (tm : t' m = t k)
    (a : (A ++ k :: C).map f = u :: I) (b : (A ++ k :: C).map t = I ++ [v]) : ∃ I1 I2, I = I1 ++ I2 ∧ (A ++ k :: m :: C).map f' = u :: (I1 ++ n :: I2) ∧ (A ++ k :: m :: C).map t' = (I1 ++ n :: I2) ++ [v] := by
  have hl : I.length = A.length + C.length := by
    have := congrArg List.length a
    simp at this; omega
  have eA : A.map f' = A.map f := List.map_congr_left fun e he => (h1 e (by simp [he])).1
  have eC : C.map f' = C.map f := List.map_congr_left fun e he => (h1 e (by simp [he])).1
  have tA : A.map t' = A.map t := List.map_congr_left fun e he => (h1 e (by simp [he])).2
  have tC : C.map t' = C.map t := List.map_congr_left fun e he => (h1 e (by simp [he])).2
  refine ⟨I.take A.length, I.drop A.length, (List.take_append_drop _ _).symm, ?_, ?_⟩
  · rw [List.map_append, List.map_cons, List.map_cons, eA, eC, fk, fm]
    rw [List.map_append, List.map_cons] at a
    have a1 := congrArg (List.take (A.length + 1)) a
    have a2 := congrArg (List.drop (A.length + 1)) a
    rw [List.take_append, List.length_map, List.take_of_length_le (by simp), show A.length + 1 - A.length = 1 by omega, List.take_succ_cons, List.take_succ_cons, List.take_zero] at a1
    rw [List.drop_append, List.length_map, List.drop_of_length_le (by simp), show A.length + 1 - A.length = 1 by omega, List.drop_succ_cons, List.drop_succ_cons, List.drop_zero, List.nil_append] at a2
    rw [← a2, show A.map f ++ f k :: n :: C.map f = (A.map f ++ [f k]) ++ n :: C.map f by simp, a1]
    rfl
  · rw [List.map_append, List.map_cons, List.map_cons, tA, tC, tk, tm]
    rw [List.map_append, List.map_cons] at b
    have b1 := congrArg (List.take A.length) b
    have b2 := congrArg (List.drop A.length) b
    rw [List.take_append, List.length_map, List.take_of_length_le (by simp), show A.length - A.length = 0 by omega, List.take_zero, List.append_nil, List.take_append_of_le_length (by omega)] at b1
    rw [List.drop_append, List.length_map, List.drop_of_length_le (by simp), show A.length - A.length = 0 by omega, List.drop_zero, List.nil_append, List.drop_append_of_le_length (by omega)] at b2
    rw [b1, b2]
    simp
theorem webs_split {es es' : Es} {k m : Nat} {n : Int} (h1 : ∀ e, e ≠ k → e ≠ m → frE es' e = frE es e ∧ toE es' e = toE es e) (fk : frE es' k = frE es k) (tk : toE es' k = n) (fm : frE es' m = n) (tm : toE es' m = toE es k) :
    ∀ {B : List (Int × Int)} {P : List (List Nat)} {J : List (List Int)}, Webs es B P J → P.flatten.Nodup → m ∉ P.flatten → k ∈ P.flatten → ∃ P' J', Webs es' B P' J' ∧ P'.flatten.Perm (m :: P.flatten) ∧ J'.flatten.Perm (n :: J.flatten)
  | [], [], [], _, _, _, hk => by cases hk
  | q :: B, p :: P, I :: J, ⟨a, b, c⟩, nd, hm, hk => by
    rw [List.flatten_cons] at nd hm hk
    obtain ⟨n1, n2, n3⟩ := List.nodup_append.1 nd
    by_cases hkp : k ∈ p
    · obtain ⟨A, C, rfl⟩ := List.append_of_mem hkp
      have hAC : ∀ e ∈ A ++ C, e ≠ k ∧ e ≠ m := fun e he => ⟨fun z => by
        subst z
        obtain ⟨x1, x2, x3⟩ := List.nodup_append.1 n1
        rcases List.mem_append.1 he with he | he
        · exact x3 e he e (by simp) rfl
        · exact (List.nodup_cons.1 x2).1 he, fun z => hm (by
        subst z
        rcases List.mem_append.1 he with he | he <;> simp [he])⟩
      obtain ⟨I1, I2, rfl, e1, e2⟩ := path_split (fun e he => h1 e (hAC e he).1 (hAC e he).2) fk tk fm tm a b
      refine ⟨(A ++ k :: m :: C) :: P, (I1 ++ n :: I2) :: J, ⟨e1, e2, webs_same (fun e he => h1 e (fun z => n3 k hkp e he z.symm) fun z => hm (by subst z; exact List.mem_append_right _ he)) c⟩, ?_, ?_⟩
      · rw [List.flatten_cons, List.flatten_cons, show A ++ k :: m :: C = (A ++ [k]) ++ m :: C by simp, List.append_assoc, List.cons_append, show A ++ k :: C ++ P.flatten = (A ++ [k]) ++ (C ++ P.flatten) by simp]
        exact List.perm_middle
      · rw [List.flatten_cons, List.flatten_cons, List.append_assoc, List.cons_append, List.append_assoc]
        exact List.perm_middle
    · have hk2 : k ∈ P.flatten := by
        rcases List.mem_append.1 hk with z | z
        · exact absurd z hkp
        · exact z
      obtain ⟨P', J', w, p1, p2⟩ := webs_split h1 fk tk fm tm c n2 (fun z => hm (List.mem_append_right _ z)) hk2
      have same : ∀ e ∈ p, frE es' e = frE es e ∧ toE es' e = toE es e := fun e he => h1 e (fun z => hkp (z ▸ he)) fun z => hm (z ▸ List.mem_append_left _ he)
      refine ⟨p :: P', I :: J', ⟨by rw [← a]; exact List.map_congr_left fun e he => (same e he).1, by rw [← b]; exact List.map_congr_left fun e he => (same e he).2, w⟩, ?_, ?_⟩
      · rw [List.flatten_cons, List.flatten_cons]
        exact (List.Perm.append_left _ p1).trans List.perm_middle
      · rw [List.flatten_cons, List.flatten_cons]
        exact (List.Perm.append_left _ p2).trans List.perm_middle
  | [], [], _ :: _, h, _, _, _ => h.elim
  | [], _ :: _, _, h, _, _, _ => h.elim
  | _ :: _, [], _, h, _, _, _ => h.elim
  | _ :: _, _ :: _, [], h, _, _, _ => h.elim
structure WebOK (nb : Nat) (g : Int) (es : Es) (sel : List Int) (B : List (Int × Int)) (P : List (List Nat)) (J : List (List Int)) : Prop where
  m : MayN g es
  w : Webs es B P J
  nd : P.flatten.Nodup
  lt : ∀ e ∈ P.flatten, e < es.length
  sel : sel.Perm (P.flatten.map fun n : Nat => (n : Int))
  jn : J.flatten.Nodup
  jr : ∀ w ∈ J.flatten, (nb : Int) ≤ w ∧ w < g
  br : ∀ q ∈ B, (0 ≤ q.1 ∧ q.1 < nb) ∧ 0 ≤ q.2 ∧ q.2 < nb
  nb : (nb : Int) ≤ g
def degB (B : List (Int × Int)) (v : Int) : Nat := (B.map Prod.fst).count v + (B.map Prod.snd).count v
theorem webs_deg {es : Es} (v : Int) : ∀ {B : List (Int × Int)} {P : List (List Nat)} {J : List (List Int)}, Webs es B P J → (P.flatten.map (frE es)).count v + (P.flatten.map (toE es)).count v = degB B v + 2 * J.flatten.count v
  | [], [], [], _ => rfl
  | q :: B, p :: P, I :: J, ⟨a, b, c⟩ => by
    have ih := webs_deg v c
    unfold degB at *
    rw [List.flatten_cons, List.flatten_cons, List.map_append, List.map_append, a, b, List.map_cons, List.map_cons]
    simp only [List.count_append, List.count_cons, List.count_nil]
    omega
  | [], [], _ :: _, h => h.elim
  | [], _ :: _, _, h => h.elim
  | _ :: _, [], _, h => h.elim
  | _ :: _, _ :: _, [], h => h.elim
theorem outF_count (es : Es) (v : Int) : ∀ sel : List Int, (outF es sel v).length = (sel.map fun e => frE es e.toNat).count v + (sel.map fun e => toE es e.toNat).count v
  | [] => rfl
  | e :: sel => by
    have e0 : outF es (e :: sel) v = halfOf es e v ++ outF es sel v := by simp [outF]
    rw [e0, List.length_append, outF_count es v sel, halfOf_len, List.map_cons, List.map_cons, List.count_cons, List.count_cons]
    unfold frE toE
    simp only [beq_iff_eq]
    omega
section
variable {nb : Nat} {g : Int} {es : Es} {sel : List Int} {B : List (Int × Int)} {P : List (List Nat)} {J : List (List Int)}
theorem WebOK.c (W : WebOK nb g es sel B P J) : ChosenK (es.length : Int) sel := by
  refine ⟨fun x hx => ?_, W.sel.nodup_iff.2 ?_⟩
  · obtain ⟨n, hn, rfl⟩ := List.mem_map.1 (W.sel.mem_iff.1 hx)
    have := W.lt n hn
    omega
  · exact List.Pairwise.map _ (fun a b hab e => hab (by omega)) W.nd
theorem WebOK.len (W : WebOK nb g es sel B P J) : sel.length = P.flatten.length := by
  rw [W.sel.length_eq, List.length_map]
theorem WebOK.deg (W : WebOK nb g es sel B P J) (v : Int) : (outF es sel v).length = degB B v + 2 * J.flatten.count v := by
  rw [outF_count, ← webs_deg v W.w]
  have e : ∀ f : Nat → Int, (sel.map fun e => f e.toNat).count v = (P.flatten.map f).count v := fun f => by
    have := ((W.sel.map fun e : Int => f e.toNat).count_eq v)
    rw [this, List.map_map]
    congr 1
  rw [e, e]
theorem WebOK.degB0 (W : WebOK nb g es sel B P J) {v : Int} (h : (nb : Int) ≤ v) : degB B v = 0 := by
  unfold degB
  rw [List.count_eq_zero.2, List.count_eq_zero.2]
  · intro z
    obtain ⟨q, hq, rfl⟩ := List.mem_map.1 z
    have := (W.br q hq).2.2; omega
  · intro z
    obtain ⟨q, hq, rfl⟩ := List.mem_map.1 z
    have := (W.br q hq).1.2; omega
theorem WebOK.degIn (W : WebOK nb g es sel B P J) {v : Int} (h : v < nb) : (outF es sel v).length = degB B v := by
  rw [W.deg v, List.count_eq_zero.2 fun z => by have := (W.jr v z).1; omega, Nat.mul_zero, Nat.add_zero]
theorem WebOK.degOut (W : WebOK nb g es sel B P J) {v : Int} (h : (nb : Int) ≤ v) : (outF es sel v).length = 0 ∨ (outF es sel v).length = 2 := by
  rw [W.deg v, W.degB0 h]
  have := List.nodup_iff_count.1 W.jn v
  omega
theorem WebOK.degMid (W : WebOK nb g es sel B P J) {v : Int} (h : v ∈ J.flatten) : (outF es sel v).length = 2 := by
  rcases W.degOut (W.jr v h).1 with z | z
  · rw [W.deg v] at z
    have := List.count_pos_iff.2 h
    omega
  · exact z
theorem range_filter_lt {nb : Nat} : ∀ n, nb ≤ n → (List.range n).filter (fun v => decide (v < nb)) = List.range nb
  | 0, h => by obtain rfl : nb = 0 := by omega
               rfl
  | n + 1, h => by
    by_cases q : nb = n + 1
    · subst q
      exact List.filter_eq_self.2 fun v hv => decide_eq_true (List.mem_range.1 hv)
    · rw [List.range_succ, List.filter_append, range_filter_lt n (by omega), List.filter_cons_of_neg (by simp; omega)]
      simp
def upL (nb : Nat) : List Int := (List.range nb).map fun n : Nat => (n : Int)
theorem WebOK.brOK (W : WebOK nb g es sel B P J) {d : Int} (hs : (d = 4 ∧ nb = 5) ∨ (d = 3 ∧ nb = 6)) (hd : ∀ v, v < nb → (degB B (v : Int) : Int) = d) : BrOK (outsF g es sel) d (upL nb) := by
  have g0 := W.nb
  have key : ∀ v : Nat, v < g.toNat → brP ((outsF g es sel).getD v []) = decide (v < nb) := fun v hv => by
    have e := outsF_get (g := g) (es := es) (sel := sel) (v := (v : Int)) (by omega) (by omega)
    rw [Int.toNat_natCast] at e
    rw [getD_of'' e]
    by_cases q : v < nb
    · rw [decide_eq_true q, brP_iff, W.degIn (by omega)]
      have := hd v q
      omega
    · rw [decide_eq_false q, ← Bool.not_eq_true, brP_iff]
      have := W.degOut (v := (v : Int)) (by omega)
      omega
  refine ⟨?_, fun v l hv hp => ?_, ?_⟩
  · unfold upL; rw [List.length_map, List.length_range]; exact hs
  · have hvl := (List.getElem?_eq_some_iff.1 hv).1
    rw [outsF_len] at hvl
    have k := key v hvl
    rw [getD_of'' hv, hp] at k
    have q := of_decide_eq_true k.symm
    have e := outsF_get (g := g) (es := es) (sel := sel) (v := (v : Int)) (by omega) (by omega)
    rw [Int.toNat_natCast, hv] at e
    rw [Option.some.inj e, W.degIn (by omega)]
    exact hd v q
  · unfold brL upL
    congr 1
    rw [outsF_len, List.filter_congr fun v hv => key v (List.mem_range.1 hv), range_filter_lt _ (by omega)]
theorem fol_walk (m : MayN g es) (c : ChosenK (es.length : Int) sel) {v : Int} {par : Nat} (hv : (outF es sel v).length ≠ 2) :
    ∀ (hs : List Nat) (h : Nat) (u : Int) (I : List Int) (f : Nat), (h :: hs).map (fromH es) = u :: I → (h :: hs).map (toH es) = I ++ [v] → (∀ x ∈ h :: hs, InH es sel x ∧ x % 2 = par) → (∀ w ∈ I, (outF es sel w).length = 2) → hs.length ≤ f →
      fol es (outsF g es sel) f h = h :: hs
  | [], h, u, I, f, a, b, x, y, hf => by
    have hI : I = [] := by
      have := congrArg List.length a
      simp at this
      exact this
    subst hI
    have tv : toH es h = v := by simpa using b
    have ih := (x h (by simp)).1
    match f with
    | 0 => rfl
    | f + 1 =>
      rw [fol, if_neg]
      rw [outsAt m c ih, tv]; exact hv
  | h' :: hs, h, u, I, f, a, b, x, y, hf => by
    have a' : (h' :: hs).map (fromH es) = I := by simpa using (List.cons.inj a).2
    match I, a' with
    | i :: I', a' =>
      have b' : toH es h = i ∧ (h' :: hs).map (toH es) = I' ++ [v] := by
        rw [List.map_cons, List.cons_append] at b
        exact List.cons.inj b
      have fi : fromH es h' = i := by rw [List.map_cons] at a'; exact (List.cons.inj a').1
      have ih := x h (by simp)
      have ih' := x h' (by simp)
      have di : (outF es sel (toH es h)).length = 2 := by rw [b'.1]; exact y i (by simp)
      have ns : ¬ stopH es (outsF g es sel) h := by
        unfold stopH
        rw [outsAt m c ih.1]
        exact fun z => z di
      match f, hf with
      | f + 1, hf =>
        rw [fol, if_pos (by rw [outsAt m c ih.1]; exact di)]
        have hn : nxt es (outsF g es sel) h = h' := by
          obtain ⟨_, _, w3, w4⟩ := two_ways m c ih.1 ns
          have hm : ((h' : Nat) : Int) ∈ outF es sel (toH es h) := (outF_mem (chK c)).2 ⟨h', rfl, ih'.1.2, by rw [fi, b'.1]⟩
          have hne : h' ≠ mate h := fun z => by
            have h1 := ih.2
            have h2 := ih'.2
            rw [z] at h2
            have : mate h % 2 ≠ h % 2 := by unfold mate; split <;> omega
            omega
          rcases w4 with w4 | w4 <;> rw [w4] at hm <;> simp at hm <;> omega
        rw [hn]
        congr 1
        exact fol_walk m c hv hs h' i I' f (by rw [List.map_cons] at a'; exact a') b'.2 (fun z hz => x z (by simp at hz ⊢; right; exact hz)) (fun w hw => y w (by simp [hw])) (by simp at hf; omega)
def fwd (p : List Nat) : List Nat := p.map fun e => 2 * e
def bwd (p : List Nat) : List Nat := p.reverse.map fun e => 2 * e + 1
theorem to_even (es : Es) (n : Nat) : toH es (2 * n) = toE es n ∧ toH es (2 * n + 1) = frE es n := by
  have f := from_even es n
  constructor
  · rw [← from_mate, show mate (2 * n) = 2 * n + 1 by unfold mate; split <;> omega]; exact f.2
  · rw [← from_mate, show mate (2 * n + 1) = 2 * n by unfold mate; split <;> omega]; exact f.1
theorem fwd_maps {p : List Nat} {u v : Int} {I : List Int} (a : p.map (frE es) = u :: I) (b : p.map (toE es) = I ++ [v]) : (fwd p).map (fromH es) = u :: I ∧ (fwd p).map (toH es) = I ++ [v] := by
  unfold fwd
  rw [List.map_map, List.map_map, ← a, ← b]
  exact ⟨List.map_congr_left fun e _ => (from_even es e).1, List.map_congr_left fun e _ => (to_even es e).1⟩
theorem bwd_maps {p : List Nat} {u v : Int} {I : List Int} (a : p.map (frE es) = u :: I) (b : p.map (toE es) = I ++ [v]) : (bwd p).map (fromH es) = v :: I.reverse ∧ (bwd p).map (toH es) = I.reverse ++ [u] := by
  unfold bwd
  rw [List.map_map, List.map_map]
  have e1 : p.reverse.map (toE es) = v :: I.reverse := by rw [List.map_reverse, b]; simp
  have e2 : p.reverse.map (frE es) = I.reverse ++ [u] := by rw [List.map_reverse, a]; simp
  rw [← e1, ← e2]
  exact ⟨List.map_congr_left fun e _ => (from_even es e).2, List.map_congr_left fun e _ => (to_even es e).2⟩
def castL (l : List Nat) : List Int := l.map fun n : Nat => (n : Int)
theorem castL_get {l : List Nat} {i : Nat} : (castL l).getD i 0 = ((l.getD i 0 : Nat) : Int) := by
  unfold castL
  rw [List.getD_eq_getElem?_getD, List.getD_eq_getElem?_getD, List.getElem?_map]
  cases l[i]? <;> rfl
theorem ends_cast {hs : List Nat} {u v : Int} {I : List Int} (a : hs.map (fromH es) = u :: I) (b : hs.map (toH es) = I ++ [v]) : endsP es (castL hs) = (u, v) := by
  unfold endsP
  rw [castL_get, castL_get, Int.toNat_natCast, Int.toNat_natCast]
  have hl : hs.length = I.length + 1 := by have := congrArg List.length a; simpa using this
  have e1 : fromH es (hs.getD 0 0) = u := by
    have := congrArg (fun l => l[0]?) a
    simp only [List.getElem?_map, List.getElem?_cons_zero] at this
    have h0 := List.getElem?_eq_getElem (show 0 < hs.length by omega)
    rw [h0] at this
    rw [List.getD_eq_getElem?_getD, h0]
    exact Option.some.inj this
  have e2 : toH es (hs.getD (hs.length - 1) 0) = v := by
    have := congrArg (fun l => l[hs.length - 1]?) b
    simp only [List.getElem?_map] at this
    have h0 := List.getElem?_eq_getElem (show hs.length - 1 < hs.length by omega)
    rw [h0, List.getElem?_append_right (by omega), show hs.length - 1 - I.length = 0 by omega] at this
    rw [List.getD_eq_getElem?_getD, h0]
    exact Option.some.inj this
  rw [show (castL hs).length = hs.length by simp [castL], e1, e2]
def startsN (P : List (List Nat)) : List Nat := P.flatMap fun p => [(fwd p).headD 0, (bwd p).headD 0]
theorem start_of {f : Nat → Int} {hs : List Nat} {u : Int} {I : List Int} {x : Nat} (a : hs.map f = u :: I) (hx : x ∈ hs) (h : f x ∉ I) : x = hs.headD 0 := by
  match hs, a, hx with
  | h0 :: r, a, hx =>
    rcases List.mem_cons.1 hx with rfl | hx
    · rfl
    · rw [List.map_cons] at a
      exact absurd ((List.cons.inj a).2 ▸ List.mem_map_of_mem hx) h
theorem head_of {f : Nat → Int} {hs : List Nat} {u : Int} {I : List Int} (a : hs.map f = u :: I) : hs.headD 0 ∈ hs ∧ f (hs.headD 0) = u := by
  match hs, a with
  | h0 :: r, a => exact ⟨by simp, (List.cons.inj a).1⟩
theorem mem_fwd {p : List Nat} {x : Nat} : x ∈ fwd p ↔ x % 2 = 0 ∧ x / 2 ∈ p := by
  unfold fwd
  rw [List.mem_map]
  constructor
  · rintro ⟨e, he, rfl⟩
    exact ⟨by omega, by rw [show 2 * e / 2 = e by omega]; exact he⟩
  · rintro ⟨h1, h2⟩
    exact ⟨_, h2, by omega⟩
theorem mem_bwd {p : List Nat} {x : Nat} : x ∈ bwd p ↔ x % 2 = 1 ∧ x / 2 ∈ p := by
  unfold bwd
  rw [List.mem_map]
  constructor
  · rintro ⟨e, he, rfl⟩
    exact ⟨by omega, by rw [show (2 * e + 1) / 2 = e by omega]; exact List.mem_reverse.1 he⟩
  · rintro ⟨h1, h2⟩
    exact ⟨_, List.mem_reverse.2 h2, by omega⟩
theorem WebOK.inH (W : WebOK nb g es sel B P J) {p : List Nat} (hp : p ∈ P) {x : Nat} (h : x / 2 ∈ p) : InH es sel x := by
  have hf : x / 2 ∈ P.flatten := List.mem_flatten.2 ⟨p, hp, h⟩
  have := W.lt _ hf
  exact ⟨by omega, W.sel.mem_iff.2 (List.mem_map.2 ⟨_, hf, rfl⟩)⟩
theorem WebOK.folF (W : WebOK nb g es sel B P J) (hd : ∀ v : Int, 0 ≤ v → v < nb → degB B v ≠ 2) {p : List Nat} (hp : p ∈ P) {q : Int × Int} (hq : q ∈ B) {I : List Int} (hI : I ∈ J) (a : p.map (frE es) = q.1 :: I) (b : p.map (toE es) = I ++ [q.2]) :
    N.folF es (outsF g es sel) ((fwd p).headD 0) = castL (fwd p) ∧ N.folF es (outsF g es sel) ((bwd p).headD 0) = castL (bwd p) := by
  have qr := W.br q hq
  have mid : ∀ w ∈ I, (outF es sel w).length = 2 := fun w hw => W.degMid (List.mem_flatten.2 ⟨I, hI, hw⟩)
  have pl : p.length ≤ es.length := by
    have h1 : p.length ≤ P.flatten.length := (List.sublist_flatten_of_mem hp).length_le
    have h2 := nodup_bound es.length P.flatten W.nd W.lt
    omega
  have e1 := fwd_maps a b
  have e2 := bwd_maps a b
  have l1 : (fwd p).length = p.length := by simp [fwd]
  have l2 : (bwd p).length = p.length := by simp [bwd]
  constructor
  · unfold N.folF
    match hf : fwd p, e1, l1 with
    | h :: r, e1, l1 =>
      rw [List.headD_cons, fol_walk W.m W.c (par := 0) (v := q.2) (by rw [W.degIn qr.2.2]; exact hd _ qr.2.1 qr.2.2) r h q.1 I _ e1.1 e1.2 (fun x hx => by
        rw [← hf] at hx
        have := mem_fwd.1 hx
        exact ⟨W.inH hp this.2, this.1⟩) mid (by simp at l1; omega)]
      rfl
  · unfold N.folF
    match hf : bwd p, e2, l2 with
    | h :: r, e2, l2 =>
      rw [List.headD_cons, fol_walk W.m W.c (par := 1) (v := q.1) (by rw [W.degIn qr.1.2]; exact hd _ qr.1.1 qr.1.2) r h q.2 I.reverse _ e2.1 e2.2 (fun x hx => by
        rw [← hf] at hx
        have := mem_bwd.1 hx
        exact ⟨W.inH hp this.2, this.1⟩) (fun w hw => mid w (List.mem_reverse.1 hw)) (by simp at l2; omega)]
      rfl
theorem starts_in {P : List (List Nat)} (hn : ∀ p ∈ P, p ≠ []) {x : Nat} (h : x ∈ startsN P) : x / 2 ∈ P.flatten := by
  unfold startsN at h
  obtain ⟨p, hp, h⟩ := List.mem_flatMap.1 h
  have h1 : (fwd p).headD 0 ∈ fwd p := by
    match hf : fwd p with
    | [] => exact absurd (by simpa [fwd] using hf) (hn p hp)
    | _ :: _ => simp
  have h2 : (bwd p).headD 0 ∈ bwd p := by
    match hf : bwd p with
    | [] => exact absurd (by simpa [bwd] using hf) (hn p hp)
    | _ :: _ => simp
  refine List.mem_flatten.2 ⟨p, hp, ?_⟩
  rcases List.mem_cons.1 h with rfl | h
  · exact (mem_fwd.1 h1).2
  · rcases List.mem_cons.1 h with rfl | h
    · exact (mem_bwd.1 h2).2
    · cases h
theorem starts_nodup : ∀ {P : List (List Nat)}, (∀ p ∈ P, p ≠ []) → P.flatten.Nodup → (startsN P).Nodup
  | [], _, _ => by simp [startsN]
  | p :: P, hn, nd => by
    rw [List.flatten_cons] at nd
    obtain ⟨n1, n2, n3⟩ := List.nodup_append.1 nd
    have hP : ∀ p ∈ P, p ≠ [] := fun x hx => hn x (by simp [hx])
    have ih := starts_nodup hP n2
    have e0 : startsN (p :: P) = (fwd p).headD 0 :: (bwd p).headD 0 :: startsN P := rfl
    have h1 : (fwd p).headD 0 ∈ fwd p := by
      match hf : fwd p with
      | [] => exact absurd (by simpa [fwd] using hf) (hn p (by simp))
      | _ :: _ => simp
    have h2 : (bwd p).headD 0 ∈ bwd p := by
      match hf : bwd p with
      | [] => exact absurd (by simpa [bwd] using hf) (hn p (by simp))
      | _ :: _ => simp
    have m1 := mem_fwd.1 h1
    have m2 := mem_bwd.1 h2
    rw [e0]
    refine List.nodup_cons.2 ⟨fun z => ?_, List.nodup_cons.2 ⟨fun z => n3 _ m2.2 _ (starts_in hP z) rfl, ih⟩⟩
    rcases List.mem_cons.1 z with z | z
    · rw [z] at m1; omega
    · exact n3 _ m1.2 _ (starts_in hP z) rfl
theorem WebOK.ne (W : WebOK nb g es sel B P J) : ∀ p ∈ P, p ≠ [] := fun p hp z => by
  obtain ⟨q, _, I, _, a, _⟩ := webs_mem W.w p hp
  subst z; cases a
theorem mem_upL {nb : Nat} {v : Int} : v ∈ upL nb ↔ 0 ≤ v ∧ v < nb := by
  unfold upL
  rw [List.mem_map]
  constructor
  · rintro ⟨n, hn, rfl⟩
    have := List.mem_range.1 hn; omega
  · rintro ⟨h1, h2⟩
    exact ⟨v.toNat, List.mem_range.2 (by omega), by omega⟩
theorem WebOK.starts (W : WebOK nb g es sel B P J) : ((upL nb).flatMap fun v => outF es sel v).Perm (castL (startsN P)) := by
  have hc := W.c
  refine (List.perm_ext_iff_of_nodup ?_ ?_).2 fun x => ?_
  · have key : ∀ l : List Int, l.Nodup → (l.flatMap fun v => outF es sel v).Nodup := by
      intro l
      induction l with
      | nil => intro _; simp
      | cons v l ih =>
        intro nd
        obtain ⟨n1, n2⟩ := List.nodup_cons.1 nd
        rw [List.flatMap_cons]
        refine List.nodup_append.2 ⟨outF_nodup (chK hc) hc.2, ih n2, fun a ha b hb e => ?_⟩
        subst e
        obtain ⟨w, hw, hb⟩ := List.mem_flatMap.1 hb
        obtain ⟨n, h1, _, h2⟩ := (outF_mem (chK hc)).1 ha
        obtain ⟨n', h3, _, h4⟩ := (outF_mem (chK hc)).1 hb
        have : n = n' := by omega
        subst this
        rw [h2] at h4
        exact n1 (h4 ▸ hw)
    exact key _ (by unfold upL; exact List.Pairwise.map _ (fun a b hab e => hab (by omega)) List.nodup_range)
  · exact List.Pairwise.map _ (fun a b hab e => hab (by omega)) (starts_nodup W.ne W.nd)
  · rw [List.mem_flatMap]
    constructor
    · rintro ⟨v, hv, hx⟩
      have hv := mem_upL.1 hv
      obtain ⟨n, rfl, h1, h2⟩ := (outF_mem (chK hc)).1 hx
      obtain ⟨k, hk, e⟩ := List.mem_map.1 (W.sel.mem_iff.1 h1)
      have : k = n / 2 := by omega
      subst this
      obtain ⟨p, hp, hkp⟩ := List.mem_flatten.1 hk
      obtain ⟨q, hq, I, hI, a, b⟩ := webs_mem W.w p hp
      have nI : ∀ w ∈ I, (nb : Int) ≤ w := fun w hw => (W.jr w (List.mem_flatten.2 ⟨I, hI, hw⟩)).1
      refine List.mem_map.2 ⟨n, List.mem_flatMap.2 ⟨p, hp, ?_⟩, rfl⟩
      rcases Nat.mod_two_eq_zero_or_one n with z | z
      · rw [start_of (fwd_maps a b).1 (mem_fwd.2 ⟨z, hkp⟩) (fun w => by have := nI _ w; omega)]
        simp
      · rw [start_of (bwd_maps a b).1 (mem_bwd.2 ⟨z, hkp⟩) (fun w => by have := nI _ (List.mem_reverse.1 w); omega)]
        simp
    · intro hx
      obtain ⟨n, hn, rfl⟩ := List.mem_map.1 hx
      obtain ⟨p, hp, hn⟩ := List.mem_flatMap.1 hn
      obtain ⟨q, hq, I, hI, a, b⟩ := webs_mem W.w p hp
      have qr := W.br q hq
      have h1 := head_of (fwd_maps a b).1
      have h2 := head_of (bwd_maps a b).1
      rcases List.mem_cons.1 hn with rfl | hn
      · exact ⟨q.1, mem_upL.2 qr.1, (outF_mem (chK hc)).2 ⟨_, rfl, (W.inH hp (mem_fwd.1 h1.1).2).2, h1.2⟩⟩
      · rcases List.mem_cons.1 hn with rfl | hn
        · exact ⟨q.2, mem_upL.2 qr.2, (outF_mem (chK hc)).2 ⟨_, rfl, (W.inH hp (mem_bwd.1 h2.1).2).2, h2.2⟩⟩
        · cases hn
def waysL (P : List (List Nat)) : List (List Int) := P.flatMap fun p => [castL (fwd p), castL (bwd p)]
theorem WebOK.paths (W : WebOK nb g es sel B P J) (hd : ∀ v : Int, 0 ≤ v → v < nb → degB B v ≠ 2) : (pathsB g es sel (upL nb)).Perm (waysL P) := by
  have e1 : pathsB g es sel (upL nb) = ((upL nb).flatMap fun v => outF es sel v).map fun x => N.folF es (outsF g es sel) x.toNat := by
    unfold pathsB
    rw [List.map_flatMap]
  rw [e1]
  refine (W.starts.map _).trans (List.Perm.of_eq ?_)
  unfold castL
  rw [List.map_map]
  have key : ∀ l : List (List Nat), (∀ p ∈ l, p ∈ P) → (startsN l).map ((fun x : Int => N.folF es (outsF g es sel) x.toNat) ∘ fun n : Nat => (n : Int)) = waysL l := by
    intro l
    induction l with
    | nil => intro _; rfl
    | cons p l ih =>
      intro h
      obtain ⟨q, hq, I, hI, a, b⟩ := webs_mem W.w p (h p (by simp))
      have f := W.folF hd (h p (by simp)) hq hI a b
      have e0 : startsN (p :: l) = (fwd p).headD 0 :: (bwd p).headD 0 :: startsN l := rfl
      have e2 : waysL (p :: l) = castL (fwd p) :: castL (bwd p) :: waysL l := rfl
      rw [e0, e2, List.map_cons, List.map_cons, ih fun x hx => h x (by simp [hx])]
      congr 1
      · exact f.1
      · congr 1
        exact f.2
  exact key P fun _ h => h
theorem totL_perm {a b : List (List Int)} (h : a.Perm b) : totL a = totL b := by
  induction h with
  | nil => rfl
  | cons x _ ih => simp [totL, ih]
  | swap x y l => simp [totL]; omega
  | trans _ _ h1 h2 => exact h1.trans h2
theorem totL_ways : ∀ P : List (List Nat), totL (waysL P) = 2 * P.flatten.length
  | [] => rfl
  | p :: P => by
    have e2 : waysL (p :: P) = castL (fwd p) :: castL (bwd p) :: waysL P := rfl
    rw [e2, totL, totL, totL_ways P, List.flatten_cons, List.length_append]
    have : (castL (fwd p)).length = p.length := by simp [castL, fwd]
    have : (castL (bwd p)).length = p.length := by simp [castL, bwd]
    omega
theorem hits_count (es : Es) (u v : Int) (paths : List (List Int)) : ∀ k, k ≤ paths.length → (hits es paths u v k).length = (paths.take k).countP fun p => decide (endsP es p = (u, v))
  | 0, _ => by simp [hits]
  | k + 1, hk => by
    have e := List.getElem?_eq_getElem (show k < paths.length by omega)
    rw [hits_succ, List.length_append, hits_count es u v paths k (by omega), List.take_add_one, e, List.countP_append]
    congr 1
    rw [List.getD_eq_getElem?_getD, e]
    simp only [Option.getD_some, Option.toList_some, List.countP_cons, List.countP_nil]
    split <;> rename_i q
    · simp [q]
    · simp [q]
def cntB (B : List (Int × Int)) (u v : Int) : Nat := B.count (u, v) + B.count (v, u)
theorem ways_count (u v : Int) : ∀ {B : List (Int × Int)} {P : List (List Nat)} {J : List (List Int)}, Webs es B P J → (waysL P).countP (fun p => decide (endsP es p = (u, v))) = cntB B u v
  | [], [], [], _ => rfl
  | q :: B, p :: P, I :: J, ⟨a, b, c⟩ => by
    have ih := ways_count u v c
    have e2 : waysL (p :: P) = castL (fwd p) :: castL (bwd p) :: waysL P := rfl
    unfold cntB at *
    have f1 := fwd_maps a b
    have f2 := bwd_maps a b
    rw [e2, List.countP_cons, List.countP_cons, ends_cast f1.1 f1.2, ends_cast f2.1 f2.2, ih, List.count_cons, List.count_cons]
    obtain ⟨q1, q2⟩ := q
    simp only [decide_eq_true_eq, beq_iff_eq, Prod.mk.injEq]
    have e3 : (q1 = v ∧ q2 = u) ↔ (q2 = u ∧ q1 = v) := ⟨fun z => ⟨z.2, z.1⟩, fun z => ⟨z.2, z.1⟩⟩
    simp only [e3]
    omega
  | [], [], _ :: _, h => h.elim
  | [], _ :: _, _, h => h.elim
  | _ :: _, [], _, h => h.elim
  | _ :: _, _ :: _, [], h => h.elim
theorem WebOK.hits (W : WebOK nb g es sel B P J) (hd : ∀ v : Int, 0 ≤ v → v < nb → degB B v ≠ 2) (u v : Int) : (N.hits es (pathsB g es sel (upL nb)) u v (pathsB g es sel (upL nb)).length).length = cntB B u v := by
  rw [hits_count _ _ _ _ _ (Nat.le_refl _), List.take_length, (W.paths hd).countP_eq, ways_count u v W.w]
theorem WebOK.tot (W : WebOK nb g es sel B P J) (hd : ∀ v : Int, 0 ≤ v → v < nb → degB B v ≠ 2) : totL (pathsB g es sel (upL nb)) = 2 * sel.length := by
  rw [totL_perm (W.paths hd), totL_ways, W.len]
theorem WebOK.betw (W : WebOK nb g es sel B P J) (hd : ∀ v : Int, 0 ≤ v → v < nb → degB B v ≠ 2) (u v : Int) : (cntB B u v = 1 → ∃ i, N.betw es (pathsB g es sel (upL nb)) u v = some i) ∧ (cntB B u v ≠ 1 → N.betw es (pathsB g es sel (upL nb)) u v = none) := by
  have h := W.hits hd u v
  unfold N.betw
  match hh : N.hits es (pathsB g es sel (upL nb)) u v (pathsB g es sel (upL nb)).length with
  | [] => rw [hh] at h; exact ⟨fun z => by rw [← h] at z; simp at z, fun _ => rfl⟩
  | [i] => rw [hh] at h; exact ⟨fun _ => ⟨i, rfl⟩, fun z => absurd (by rw [← h]; rfl) z⟩
  | _ :: _ :: _ => rw [hh] at h; exact ⟨fun z => by rw [← h] at z; simp at z, fun _ => rfl⟩
/-- For each of some pairs, the way between them. -/
theorem sel_ex {paths : List (List Int)} : ∀ {pairs : List (Int × Int)}, (∀ q ∈ pairs, ∃ i, N.betw es paths q.1 q.2 = some i) → ∃ ix : List Nat, ix.length = pairs.length ∧ Sel es paths pairs ix
  | [], _ => ⟨[], rfl, fun j i q h => by cases h⟩
  | q :: r, h => by
    obtain ⟨ix, h1, h2⟩ := sel_ex (pairs := r) fun q hq => h q (by simp [hq])
    obtain ⟨i, hi⟩ := h q (by simp)
    refine ⟨i :: ix, by simp [h1], fun j i' q' e1 e2 => ?_⟩
    match j with
    | 0 =>
      rw [List.getElem?_cons_zero] at e1 e2
      obtain rfl := Option.some.inj e1
      obtain rfl := Option.some.inj e2
      exact hi
    | j + 1 => exact h2 j i' q' (by simpa using e1) (by simpa using e2)
theorem idxL_up {nb : Nat} {v : Int} (h0 : 0 ≤ v) (h1 : v < nb) : idxL v (upL nb) 0 = v := by
  have key : ∀ (k n : Nat), n + k = nb → (n : Int) ≤ v → idxL v ((List.range' n k).map fun n : Nat => (n : Int)) n = v := by
    intro k
    induction k with
    | zero => intro n h1 h2; omega
    | succ k ih =>
      intro n h1 h2
      rw [List.range'_succ, List.map_cons, idxL]
      split
      · rename_i q; rw [q]
      · rename_i q; exact ih (n + 1) (by omega) (by omega)
  unfold upL
  rw [List.range_eq_range']
  exact key nb 0 (by omega) (by omega)
/-- What the selected ways shrink to: the pairs. -/
theorem shr_sel {nb : Nat} {paths : List (List Int)} {pairs : List (Int × Int)} {ix : List Nat} (hl : ix.length = pairs.length) (s : Sel es paths pairs ix) (hb : ∀ q ∈ pairs, (0 ≤ q.1 ∧ q.1 < nb) ∧ 0 ≤ q.2 ∧ q.2 < nb) : (ix.map fun i => paths.getD i []).map (shr es (upL nb)) = pairs := by
  apply List.ext_getElem?
  intro j
  rw [List.map_map, List.getElem?_map]
  by_cases q : j < ix.length
  · have e1 := List.getElem?_eq_getElem q
    have e2 := List.getElem?_eq_getElem (show j < pairs.length by omega)
    rw [e1, e2]
    have h := (s.ends e1 e2).2
    have hr := hb _ (List.mem_of_getElem? e2)
    show some (shr es (upL nb) _) = _
    unfold shr
    rw [h, idxL_up hr.1.1 hr.1.2, idxL_up hr.2.1 hr.2.2]
  · rw [List.getElem?_eq_none (show ix.length ≤ j by omega), List.getElem?_eq_none (by omega)]; rfl
end
section
variable {g : Int} {es : Es} {sel : List Int} {P : List (List Nat)} {J : List (List Int)}
theorem deg_k5 : ∀ v : Nat, v < 5 → degB k5 (v : Int) = 4 := by decide
theorem deg_k33 : ∀ v : Nat, v < 6 → degB k33 (v : Int) = 3 := by decide
theorem ne_k5 (v : Int) (h0 : 0 ≤ v) (h1 : v < (5 : Nat)) : degB k5 v ≠ 2 := by
  have := deg_k5 v.toNat (by omega)
  rw [Int.toNat_of_nonneg h0] at this
  omega
theorem ne_k33 (v : Int) (h0 : 0 ≤ v) (h1 : v < (6 : Nat)) : degB k33 v ≠ 2 := by
  have := deg_k33 v.toNat (by omega)
  rw [Int.toNat_of_nonneg h0] at this
  omega
theorem pre_k5 : preP (upL 5) (upL 5).length = k5 := by decide
theorem web_five (W : WebOK 5 g es sel k5 P J) : (∃ p, Good g es sel 5 (upL 5) p) ∧ ∀ k b p, Good g es sel k b p → k = 5 ∧ b.length = 5 ∧ p.map (shr es b) = k5 := by
  have z : BrOK (outsF g es sel) 4 (upL 5) := W.brOK (.inl ⟨rfl, rfl⟩) fun v hv => by rw [deg_k5 v hv]; rfl
  refine ⟨?_, fun k b p y => ?_⟩
  · obtain ⟨ix, h1, h2⟩ := sel_ex (es := es) (paths := pathsB g es sel (upL 5)) (pairs := preP (upL 5) (upL 5).length) fun q hq => (W.betw ne_k5 q.1 q.2).1 (by
      rw [pre_k5] at hq
      revert q; decide)
    exact ⟨_, .inl ⟨rfl, z, W.tot ne_k5, ix, h1, h2, rfl⟩⟩
  · rcases y with ⟨e, y, _, ix, h1, h2, rfl⟩ | ⟨e, u, rest, y, _⟩
    · obtain rfl := (y.uniq z).2
      refine ⟨e, rfl, ?_⟩
      rw [shr_sel h1 h2 (by rw [pre_k5]; decide), pre_k5]
    · exact absurd (y.uniq z).1 (by decide)
theorem web_parted (W : WebOK 6 g es sel k33 P J) : (∃ p, Good g es sel 33 (upL 6) p) ∧ ∀ k b p, Good g es sel k b p → k = 33 ∧ b.length = 6 ∧ p.map (shr es b) = k33 := by
  have z : BrOK (outsF g es sel) 3 (upL 6) := W.brOK (.inr ⟨rfl, rfl⟩) fun v hv => by rw [deg_k33 v hv]; rfl
  have eu : upL 6 = 0 :: [1, 2, 3, 4, 5] := by decide
  have no : ∀ v : Int, cntB k33 0 v ≠ 1 → isNo es (pathsB g es sel (upL 6)) 0 v = true := fun v h => by unfold isNo; rw [(W.betw ne_k33 0 v).2 h]; rfl
  have yes : ∀ v : Int, cntB k33 0 v = 1 → isNo es (pathsB g es sel (upL 6)) 0 v = false := fun v h => by
    unfold isNo
    obtain ⟨i, hi⟩ := (W.betw ne_k33 0 v).1 h
    rw [hi]; rfl
  have sA : sideA es (pathsB g es sel (upL 6)) 0 [1, 2, 3, 4, 5] = [0, 1, 2] := by
    unfold sideA
    simp [List.filter_cons, no 1 (by decide), no 2 (by decide), yes 3 (by decide), yes 4 (by decide), yes 5 (by decide)]
  have sB : sideB es (pathsB g es sel (upL 6)) 0 [1, 2, 3, 4, 5] = [3, 4, 5] := by
    unfold sideB
    simp [List.filter_cons, no 1 (by decide), no 2 (by decide), yes 3 (by decide), yes 4 (by decide), yes 5 (by decide)]
  have pp : pairsOf [0, 1, 2] [3, 4, 5] = k33 := by decide
  have tot := W.tot ne_k33
  have bet := W.betw ne_k33
  rw [eu] at z sA sB tot bet
  refine ⟨?_, fun k b p y => ?_⟩
  · obtain ⟨ix, h1, h2⟩ := sel_ex (es := es) (paths := pathsB g es sel (0 :: [1, 2, 3, 4, 5])) (pairs := k33) fun q hq => (bet q.1 q.2).1 (by
      revert q; decide)
    refine ⟨_, .inr ⟨rfl, 0, [1, 2, 3, 4, 5], z, tot, by rw [sB]; rfl, by rw [sA, sB]; decide, ix, ?_, ?_, rfl⟩⟩
    · rw [sA, sB, pp]; exact h1
    · rw [sA, sB, pp]; exact h2
  · rcases y with ⟨e, y, _⟩ | ⟨e, u, rest, y, _, h3, rfl, ix, h1, h2, rfl⟩
    · exact absurd (y.uniq z).1 (by decide)
    · obtain ⟨rfl, rfl⟩ := List.cons.inj (y.uniq z).2
      rw [sA, sB] at *
      rw [pp] at h1 h2
      refine ⟨e, rfl, ?_⟩
      have eu2 : ([0, 1, 2] : List Int) ++ [3, 4, 5] = upL 6 := by decide
      rw [eu2]
      exact shr_sel h1 h2 (by decide)
end

structure Grown (nb : Nat) (B : List (Int × Int)) (g : Int) (es : Es) (P : List (List Nat)) (J : List (List Int)) : Prop where
  w : Webs es B P J
  p : P.flatten.Perm (List.range es.length)
  jn : J.flatten.Nodup
  jr : ∀ w ∈ J.flatten, (nb : Int) ≤ w ∧ w < g
  nb : (nb : Int) ≤ g
def splitK (g : Int) (es : Es) (k : Nat) : Es := es.set k ((es.getD k (0, 0)).1, g) ++ [(g, (es.getD k (0, 0)).2)]
theorem splitK_len (g : Int) (es : Es) (k : Nat) : (splitK g es k).length = es.length + 1 := by simp [splitK]
theorem splitK_old {g : Int} {es : Es} {k e : Nat} (h1 : e ≠ k) (h2 : e ≠ es.length) : (splitK g es k).getD e (0, 0) = es.getD e (0, 0) := by
  unfold splitK
  rw [List.getD_eq_getElem?_getD, List.getD_eq_getElem?_getD (l := es) (i := e)]
  by_cases q : e < es.length
  · rw [List.getElem?_append_left (by simpa using q), List.getElem?_set_ne (fun z => h1 z.symm)]
  · rw [List.getElem?_eq_none (by simp; omega), List.getElem?_eq_none (by omega)]
theorem splitK_k {g : Int} {es : Es} {k : Nat} (hk : k < es.length) : (splitK g es k).getD k (0, 0) = ((es.getD k (0, 0)).1, g) := by
  rw [List.getD_eq_getElem?_getD]
  unfold splitK
  rw [List.getElem?_append_left (by simpa using hk), List.getElem?_set_self hk]
  rfl
theorem splitK_m {g : Int} {es : Es} {k : Nat} : (splitK g es k).getD es.length (0, 0) = (g, (es.getD k (0, 0)).2) := by
  rw [List.getD_eq_getElem?_getD]
  unfold splitK
  rw [List.getElem?_append_right (by simp)]
  simp
theorem splitK_may {g : Int} {es : Es} {k : Nat} (m : MayN g es) (hk : k < es.length) (hg : g ≤ 1023) (hl : es.length ≤ 3071) : mayB (g + 1) (splitK g es k) = true := by
  have g0 := m.g0
  have x := List.getElem?_eq_getElem hk
  have qr := m.e k _ x
  have ex : es.getD k (0, 0) = es[k] := by rw [List.getD_eq_getElem?_getD, x]; rfl
  refine mayB_iff.2 ⟨by omega, by rw [splitK_len]; omega, fun e he => ?_⟩
  unfold splitK at he
  rw [ex] at he
  rcases List.mem_append.1 he with he | he
  · rcases List.mem_or_eq_of_mem_set he with he | rfl
    · obtain ⟨i, hi⟩ := List.mem_iff_getElem?.1 he
      have := m.e i e hi
      exact endB_iff.2 ⟨⟨this.1.1, by omega⟩, this.2.1, by omega⟩
    · exact endB_iff.2 ⟨⟨qr.1.1, by dsimp only; omega⟩, g0, by dsimp only; omega⟩
  · rcases List.mem_singleton.1 he with rfl
    exact endB_iff.2 ⟨⟨g0, by dsimp only; omega⟩, qr.2.1, by dsimp only; omega⟩
theorem grown_split {nb : Nat} {B : List (Int × Int)} {g : Int} {es : Es} {P : List (List Nat)} {J : List (List Int)} {k : Nat} (w : Grown nb B g es P J) (hk : k < es.length) : ∃ P' J', Grown nb B (g + 1) (splitK g es k) P' J' := by
  have old := fun {e} h1 h2 => splitK_old (g := g) (es := es) (k := k) (e := e) h1 h2
  have hnd : P.flatten.Nodup := w.p.nodup_iff.2 List.nodup_range
  obtain ⟨P', J', w', p1, p2⟩ := webs_split (es := es) (es' := splitK g es k) (k := k) (m := es.length) (n := g) (fun e h1 h2 => by unfold frE toE; rw [old h1 h2]; exact ⟨rfl, rfl⟩)
    (by unfold frE; rw [splitK_k hk]) (by unfold toE; rw [splitK_k hk]) (by unfold frE; rw [splitK_m]) (by unfold toE; rw [splitK_m]) w.w hnd (fun z => by
      have := List.mem_range.1 (w.p.mem_iff.1 z); omega) (w.p.mem_iff.2 (List.mem_range.2 hk))
  have h0 := w.nb
  refine ⟨P', J', w', ?_, p2.nodup_iff.2 (List.nodup_cons.2 ⟨fun z => by have := (w.jr g z).2; omega, w.jn⟩), fun x hx => ?_, by omega⟩
  · rw [splitK_len, List.range_succ]
    refine p1.trans ((w.p.cons _).trans ?_)
    exact (List.perm_append_singleton _ _).symm
  · rcases List.mem_cons.1 (p2.mem_iff.1 hx) with rfl | hx
    · omega
    · have := w.jr x hx; omega
theorem grown_k5 : Grown 5 k5 5 k5 [[0], [1], [2], [3], [4], [5], [6], [7], [8], [9]] [[], [], [], [], [], [], [], [], [], []] :=
  ⟨⟨rfl, rfl, rfl, rfl, rfl, rfl, rfl, rfl, rfl, rfl, rfl, rfl, rfl, rfl, rfl, rfl, rfl, rfl, rfl, rfl, trivial⟩, List.Perm.of_eq (by decide), by decide, fun w h => (List.not_mem_nil h).elim, by decide⟩
theorem grown_k33 : Grown 6 k33 6 k33 [[0], [1], [2], [3], [4], [5], [6], [7], [8]] [[], [], [], [], [], [], [], [], []] :=
  ⟨⟨rfl, rfl, rfl, rfl, rfl, rfl, rfl, rfl, rfl, rfl, rfl, rfl, rfl, rfl, rfl, rfl, rfl, rfl, trivial⟩, List.Perm.of_eq (by decide), by decide, fun w h => (List.not_mem_nil h).elim, by decide⟩
/-- What is grown, with other edges behind it, its edges in any order. -/
theorem grown_web {nb : Nat} {B : List (Int × Int)} {g G : Int} {es E : Es} {P : List (List Nat)} {J : List (List Int)} {sel : List Int} (w : Grown nb B g es P J) (m : MayN G E) (hg : g ≤ G) (hE : es.length ≤ E.length) (same : ∀ e, e < es.length → E.getD e (0, 0) = es.getD e (0, 0))
    (hs : sel.Perm ((List.range es.length).map fun n : Nat => (n : Int))) (br : ∀ q ∈ B, (0 ≤ q.1 ∧ q.1 < nb) ∧ 0 ≤ q.2 ∧ q.2 < nb) : WebOK nb G E sel B P J := by
  have lt : ∀ e ∈ P.flatten, e < es.length := fun e he => List.mem_range.1 (w.p.mem_iff.1 he)
  have h0 := w.nb
  refine ⟨m, webs_same (fun e he => by unfold frE toE; rw [same e (lt e he)]; exact ⟨rfl, rfl⟩) w.w, w.p.nodup_iff.2 List.nodup_range, fun e he => by have := lt e he; omega, hs.trans (w.p.symm.map _), w.jn, fun x hx => by have := w.jr x hx; omega, br, by omega⟩
end Go.Proofs.Ytmcloipjlihhlaa.N
