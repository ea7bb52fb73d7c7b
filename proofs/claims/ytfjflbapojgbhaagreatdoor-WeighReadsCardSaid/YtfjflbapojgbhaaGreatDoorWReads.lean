/- WeighReads: the document's reader, the plain law. Conditions: none. -/
import Derived.Test.YtfjflbapojgbhaaGreatDoorWSlow
import Derived.Test.YtfjflbapojgbhaaGreatDoorWBeg
import Derived.Test.YtfjflbapojgbhaaGreatDoorWLaw2
namespace Go.Proofs.YtfjflbapojgbhaaGreatDoor.N
open Go.X Go.Proofs.YtfjflbapojgbhaaGreatDoor
set_option maxRecDepth 100000
set_option maxHeartbeats 1000000
set_option linter.unusedVariables false

theorem ok40' {s : ByteArray} {k : Nat} (hs : s.size ≤ 9223372036854775807) (hk : k ≤ s.data.toList.length) {R : Int → Prop} (r : R (dgN (s.data.toList.drop k) : Int)) : Ok40 s (k : Int) R := by
  apply ok40; unfold T40
  have hsz : s.size = s.data.toList.length := rfl
  refine ⟨fun n => n = (dgN (s.data.toList.drop k) : Int), ⟨fun i => ∃ j : Nat, i = j ∧ k + j ≤ s.data.toList.length ∧ dgN (s.data.toList.drop k) = j + dgN (s.data.toList.drop (k + j)), fun i => s.size - (k + i.toNat), ⟨0, rfl, hk, by simp⟩, ?_⟩, fun n e => by rw [e]; exact r⟩
  rintro _ ⟨j, rfl, hj, hd⟩
  have e0 : IntKind.i64.wrap ((k : Int) + (j : Int)) = ((k + j : Nat) : Int) := by rw [wr (by omega) (by omega)]; omega
  rw [e0]
  by_cases hlt : k + j < s.data.toList.length
  · have hdr : s.data.toList.drop (k + j) = s.data.toList[k + j] :: s.data.toList.drop (k + j + 1) := List.drop_eq_getElem_cons hlt
    have hat : s[Int.toNat ((k + j : Nat) : Int)]? = some s.data.toList[k + j] := by rw [getB, Int.toNat_natCast, List.getElem?_eq_getElem hlt]
    generalize s.data.toList[k + j] = c at *
    rw [hdr] at hd
    by_cases hc : isD c = true
    · have hc2 := isD_iff.1 hc
      have hd2 : dgN (s.data.toList.drop k) = (j + 1) + dgN (s.data.toList.drop (k + (j + 1))) := by
        rw [hd, show k + (j + 1) = k + j + 1 by omega]; unfold dgN; rw [List.takeWhile_cons, if_pos hc, List.length_cons]; omega
      have hw : IntKind.i64.wrap ((j : Int) + 1) = ((j + 1 : Nat) : Int) := by rw [wr (by omega) (by omega)]; omega
      refine ⟨False, cnd_dec (fun _ => ⟨by omega, by omega, c, hat, cnd_dec (fun _ => ⟨by omega, by omega, c, hat, cnd_dec (fun _ => ⟨⟨j + 1, hw, by omega, hd2⟩, ?_⟩) fun h => absurd (show ((c.toNat : Nat) : Int) ≤ 57 by omega) h⟩) fun h => absurd (show ((c.toNat : Nat) : Int) ≥ 48 by omega) h⟩) fun h => absurd (show ((k + j : Nat) : Int) < (s.size : Int) by omega) h, fun h => h.elim⟩
      dsimp only; rw [hw]; omega
    · have hc2 : ¬ (48 ≤ c.toNat ∧ c.toNat ≤ 57) := fun h => hc (isD_iff.2 h)
      have hd2 : (j : Int) = (dgN (s.data.toList.drop k) : Int) := by
        rw [hd]; unfold dgN; rw [List.takeWhile_cons, if_neg hc]; simp
      exact ⟨True, cnd_dec (fun _ => ⟨by omega, by omega, c, hat, cnd_dec (fun h1 => ⟨by omega, by omega, c, hat, cnd_dec (fun h2 => absurd (show 48 ≤ c.toNat ∧ c.toNat ≤ 57 by omega) hc2) fun _ => hd2⟩) fun _ => trivial⟩) fun _ => trivial, fun _ => hd2⟩
  · have hd2 : (j : Int) = (dgN (s.data.toList.drop k) : Int) := by
      rw [hd, List.drop_eq_nil_of_le (by omega)]; simp [dgN]
    exact ⟨True, cnd_dec (fun h => absurd h (by omega)) fun _ => trivial, fun _ => hd2⟩
theorem sgn_at {l : List UInt8} {k : Nat} {c : UInt8} {t : List UInt8} (h : l.drop k = c :: t) : dropS (l.drop k) = l.drop (if c = 43 ∨ c = 45 then k + 1 else k) := by
  have ht : t = l.drop (k + 1) := by
    have := congrArg List.tail h
    rw [List.tail_drop] at this; exact this.symm
  unfold dropS
  rw [h]
  dsimp only
  split
  · exact ht
  · exact h.symm
theorem ok31' {s : ByteArray} (hs : s.size ≤ 9223372036854775807) {R : Bool → Prop} (r : R (numF s.data.toList)) : Ok31 s R := by
  apply ok31; unfold T31
  have hsz : s.size = s.data.toList.length := rfl
  rw [hsz]
  have at' : ∀ k : Nat, s[k]? = s.data.toList[k]? := fun k => getB s k
  generalize hl : s.data.toList = l at *
  have hd : ∀ {k : Nat}, k < l.length → ∃ c, l[k]? = some c ∧ l.drop k = c :: l.drop (k + 1) ∧ s[Int.toNat (k : Int)]? = some c := fun {k} hk =>
    ⟨l[k], List.getElem?_eq_getElem hk, List.drop_eq_getElem_cons hk, by rw [Int.toNat_natCast, at', List.getElem?_eq_getElem hk]⟩
  have nx : ∀ {k : Nat}, k < 9223372036854775807 → IntKind.i64.wrap ((k : Int) + (1 : Int)) = ((k + 1 : Nat) : Int) := fun {k} hk => by rw [wr (by omega) (by omega)]; omega
  have pl : ∀ {k j : Nat}, k + j ≤ 9223372036854775807 → IntKind.i64.wrap ((k : Int) + (j : Int)) = ((k + j : Nat) : Int) := fun {k j} hk => by rw [wr (by omega) (by omega)]; omega
  have eq8 : ∀ {c d : UInt8}, (((c.toNat : Nat) : Int) = (d.toNat : Int)) ↔ c = d := eqB
  have k40 : ∀ {k : Nat} {Q : Int → Prop}, k ≤ l.length → Q (dgN (l.drop k) : Int) → Ok40 s (k : Int) Q := fun {k Q} hk q => ok40' hs (by rw [hl]; exact hk) (by rw [hl]; exact q)
  have len : ∀ k, (l.drop k).length = l.length - k := fun k => List.length_drop
  -- the sign
  refine ⟨fun a => ∃ k : Nat, a = k ∧ k ≤ l.length ∧ dropS l = l.drop k, ?_, ?_⟩
  · refine cnd_dec (fun h0 => ?_) fun h0 => ⟨0, rfl, Nat.zero_le _, ?_⟩
    · obtain ⟨c, c1, c2, c3⟩ := hd (k := 0) (by omega)
      have hsg := sgn_at (k := 0) c2
      rw [List.drop_zero] at hsg
      refine ⟨by decide, h0, c, c3, cnd_eq (fun e => ⟨1, by decide, by omega, by rw [hsg, if_pos (.inl (eq8.1 e))]⟩) fun e => ⟨by decide, h0, c, c3, fun a => ∃ k : Nat, a = k ∧ k ≤ l.length ∧ dropS l = l.drop k, cnd_eq (fun e2 => ⟨1, by decide, by omega, by rw [hsg, if_pos (.inr (eq8.1 e2))]⟩) fun e2 => ⟨0, rfl, by omega, ?_⟩, fun _ h => h⟩⟩
      rw [hsg, if_neg (fun h => h.elim (fun h => e (eq8.2 h)) fun h => e2 (eq8.2 h))]
    · have : l = [] := List.length_eq_zero_iff.1 (by omega)
      rw [this]; rfl
  rintro _ ⟨k, rfl, hk, hS⟩
  unfold numF at r
  rw [hS] at r
  refine k40 hk ?_
  have hdg := dgN_le (l.drop k)
  rw [len] at hdg
  obtain ⟨n, hn⟩ : ∃ n, n = dgN (l.drop k) := ⟨_, rfl⟩
  rw [← hn] at r hdg ⊢
  rw [List.drop_drop] at r
  refine cnd_eq (fun h0 => by rw [if_pos (by omega)] at r; exact r) fun h0 => ?_
  rw [if_neg (by omega)] at r
  rw [pl (by omega)]
  obtain ⟨p, hp⟩ : ∃ p, p = k + n := ⟨_, rfl⟩
  rw [← hp] at r ⊢
  -- the point
  refine ⟨fun a => ∃ q : Nat, a = q ∧ q ≤ l.length ∧ pntF (l.drop p) = some (l.drop q), ?_, ?_⟩
  · refine cnd_dec (fun h1 => ?_) fun h1 => ⟨p, rfl, by omega, ?_⟩
    · obtain ⟨c, c1, c2, c3⟩ := hd (k := p) (by omega)
      refine ⟨by omega, h1, c, c3, fun a => ∃ q : Nat, a = q ∧ q ≤ l.length ∧ pntF (l.drop p) = some (l.drop q), cnd_eq (fun e => ?_) fun e => ⟨p, rfl, by omega, ?_⟩, fun _ h => h⟩
      · have hc : c = 46 := eq8.1 e
        rw [nx (by omega)]
        refine k40 (by omega) ?_
        have hdg2 := dgN_le (l.drop (p + 1))
        rw [len] at hdg2
        have hpt : pntF (l.drop p) = if dgN (l.drop (p + 1)) = 0 then none else some ((l.drop (p + 1)).drop (dgN (l.drop (p + 1)))) := by rw [c2, hc]; rfl
        refine cnd_eq (fun hz => ?_) fun hz => ?_
        · rw [hpt, if_pos (by omega)] at r; exact r
        · rw [pl (by omega)]
          exact ⟨p + 1 + dgN (l.drop (p + 1)), rfl, by omega, by rw [hpt, if_neg (by omega), List.drop_drop]⟩
      · have hc : c ≠ 46 := fun h => e (eq8.2 h)
        rw [c2]
        show (if c = 46 then _ else some (c :: l.drop (p + 1))) = _
        rw [if_neg hc]
    · have : l.drop p = [] := List.drop_eq_nil_of_le (by omega)
      rw [this]; rfl
  rintro _ ⟨q, rfl, hq, hP⟩
  rw [hP] at r
  clear hP hp h0
  -- the exponent, letter behind letter
  have expo : ∀ (c : UInt8) (J : Int → Prop), l[q]? = some c → l.drop q = c :: l.drop (q + 1) → (c = 101 ∨ c = 69) → (∀ n : Nat, R (decide (n = l.length)) → J (n : Int)) →
      ∃ Jv : Int → Prop, (cnd (decide (((q + 1 : Nat) : Int) < (l.length : Int)))
            (0 ≤ ((q + 1 : Nat) : Int) ∧ ((q + 1 : Nat) : Int) < (l.length : Int) ∧ ∃ xc6 : UInt8, s[Int.toNat ((q + 1 : Nat) : Int)]? = some xc6 ∧ cnd (((UInt8.toNat xc6 : Nat) : Int) == (43 : Int))
              (Jv (IntKind.i64.wrap (((q + 1 : Nat) : Int) + (1 : Int))))
              (0 ≤ ((q + 1 : Nat) : Int) ∧ ((q + 1 : Nat) : Int) < (l.length : Int) ∧ ∃ xc7 : UInt8, s[Int.toNat ((q + 1 : Nat) : Int)]? = some xc7 ∧ ∃ Jv3 : Int → Prop,
              ( cnd (((UInt8.toNat xc7 : Nat) : Int) == (45 : Int))
                 (Jv3 (IntKind.i64.wrap (((q + 1 : Nat) : Int) + (1 : Int))))
                 (Jv3 ((q + 1 : Nat) : Int))) ∧
              ∀ atv5 : Int, Jv3 atv5 →
              Jv atv5))
            (Jv ((q + 1 : Nat) : Int))) ∧
         ∀ atv6 : Int, Jv atv6 →
         Ok40 s atv6 (fun r3 =>
         cnd (decide (r3 < (1 : Int)))
           (R false)
           (cnd (decide (r3 > (4 : Int)))
             (R false)
             (J (IntKind.i64.wrap (atv6 + r3))))) := by
    intro c J c1 c2 hc hJ
    have hql : q < l.length := (List.getElem?_eq_some_iff.1 c1).1
    have hx : expF (some (l.drop q)) = (decide (1 ≤ (dropS (l.drop (q + 1))).length) && (decide ((dropS (l.drop (q + 1))).length ≤ 4) && decide (dgN (dropS (l.drop (q + 1))) = (dropS (l.drop (q + 1))).length))) := by
      rw [c2]; unfold expF; dsimp only; rw [if_pos hc]
    rw [hx] at r
    refine ⟨fun a => ∃ m : Nat, a = m ∧ m ≤ l.length ∧ dropS (l.drop (q + 1)) = l.drop m, ?_, ?_⟩
    · refine cnd_dec (fun h1 => ?_) fun h1 => ⟨q + 1, rfl, by omega, ?_⟩
      · obtain ⟨d, d1, d2, d3⟩ := hd (k := q + 1) (by omega)
        have hsg := sgn_at d2
        have n2 := nx (k := q + 1) (by omega)
        rw [n2]
        refine ⟨by omega, h1, d, d3, cnd_eq (fun e => ⟨q + 2, rfl, by omega, by rw [hsg, if_pos (.inl (eq8.1 e))]⟩) fun e => ⟨by omega, h1, d, d3, fun a => ∃ m : Nat, a = m ∧ m ≤ l.length ∧ dropS (l.drop (q + 1)) = l.drop m, cnd_eq (fun e2 => ⟨q + 2, rfl, by omega, by rw [hsg, if_pos (.inr (eq8.1 e2))]⟩) fun e2 => ⟨q + 1, rfl, by omega, ?_⟩, fun _ h => h⟩⟩
        rw [hsg, if_neg (fun h => h.elim (fun h => e (eq8.2 h)) fun h => e2 (eq8.2 h))]
      · have : l.drop (q + 1) = [] := List.drop_eq_nil_of_le (by omega)
        rw [this]; rfl
    · rintro _ ⟨m, rfl, hm, hS⟩
      rw [hS, len] at r
      have hdg3 := dgN_le (l.drop m)
      rw [len] at hdg3
      refine k40 hm ?_
      refine cnd_dec (fun h1 => ?_) fun h1 => cnd_dec (fun h2 => ?_) fun h2 => ?_
      · have : (decide (1 ≤ l.length - m) && (decide (l.length - m ≤ 4) && decide (dgN (l.drop m) = l.length - m))) = false := by
          simp only [Bool.and_eq_false_iff, decide_eq_false_iff_not]; omega
        rw [this] at r; exact r
      · have : (decide (1 ≤ l.length - m) && (decide (l.length - m ≤ 4) && decide (dgN (l.drop m) = l.length - m))) = false := by
          simp only [Bool.and_eq_false_iff, decide_eq_false_iff_not]; omega
        rw [this] at r; exact r
      · rw [pl (by omega)]
        refine hJ _ ?_
        have : (decide (1 ≤ l.length - m) && (decide (l.length - m ≤ 4) && decide (dgN (l.drop m) = l.length - m))) = decide (m + dgN (l.drop m) = l.length) := by
          rw [Bool.eq_iff_iff]; simp only [Bool.and_eq_true, decide_eq_true_eq]; omega
        rw [this] at r; exact r
  have fin : ∀ n : Nat, R (decide (n = l.length)) → R ((n : Int) == ((l.length : Nat) : Int)) := fun n h => by
    have : ((n : Int) == ((l.length : Nat) : Int)) = decide (n = l.length) := by rw [Bool.eq_iff_iff, beq_iff_eq, decide_eq_true_iff]; omega
    rw [this]; exact h
  refine ⟨fun a => ∃ n : Nat, a = n ∧ R (decide (n = l.length)), ?_, ?_⟩
  · refine cnd_dec (fun h1 => ?_) fun h1 => ⟨q, rfl, ?_⟩
    · obtain ⟨c, c1, c2, c3⟩ := hd (k := q) (by omega)
      rw [nx (by omega)]
      refine ⟨by omega, h1, c, c3, cnd_eq (fun e => expo c (fun a => ∃ n : Nat, a = n ∧ R (decide (n = l.length))) c1 c2 (.inl (eq8.1 e)) fun n h => ⟨n, rfl, h⟩) fun e => ⟨by omega, h1, c, c3, fun a => ∃ n : Nat, a = n ∧ R (decide (n = l.length)), cnd_eq (fun e2 => expo c (fun a => ∃ n : Nat, a = n ∧ R (decide (n = l.length))) c1 c2 (.inr (eq8.1 e2)) fun n h => ⟨n, rfl, h⟩) fun e2 => ⟨q, rfl, ?_⟩, fun _ h => h⟩⟩
      have hx : expF (some (l.drop q)) = false := by
        rw [c2]; unfold expF; dsimp only; rw [if_neg (fun h => h.elim (fun h => e (eq8.2 h)) fun h => e2 (eq8.2 h))]
      rw [hx] at r
      rw [decide_eq_false (by omega)]; exact r
    · have hx : l.drop q = [] := List.drop_eq_nil_of_le (by omega)
      rw [hx] at r
      rw [decide_eq_true (by omega)]; exact r
  · rintro _ ⟨n, rfl, h⟩
    exact fin n h
theorem ok11' {s : ByteArray} {V : Nat} (hs : s.size ≤ 9223372036854775807) (hV : numF s.data.toList = true → s.size ≤ 64 → P37 s V) {R : Nat → Int → Prop} (r : R (readV s.data.toList V).1 (readV s.data.toList V).2) : Ok11 s R := by
  intro h gl H
  have g := gl_hp H
  have hsl : s.size = s.data.toList.length := rfl
  apply calls11
  unfold S11
  rw [strEq, strEq, strEq]
  unfold readV at r
  have ret : ∀ (x : Nat) (e : Int) (h' : Heap), Fr [] h h' → R x e → (fun (v : Value) (h' : Heap) => ∃ (raV : Nat) (rbV : Int), Sy h [] h' [] ∧ v = Value.tuple #[Value.float FloatKind.f64 raV, Value.int IntKind.i64 rbV] ∧ R raV rbV) (.tuple #[.float .f64 x, .int .i64 e]) h' :=
    fun x e h' f q => ⟨x, e, sy0 f, rfl, q⟩
  have k0 : ∀ {h' : Heap}, Hp h' [] := fun {h'} => Hp.nil h'
  refine cnd_dec (fun h1 => ?_) fun h1 => cnd_dec (fun h2 => ?_) fun h2 => cnd_dec (fun h3 => ?_) fun h3 => ?_
  · rw [if_pos h1] at r
    refine callX_nil ((ok30' (R := fun q => q = nanC) rfl h k0).mono fun v h' ⟨a, P, e1, e2⟩ => ⟨P.fr, show v = .float .f64 nanC by rw [e1, e2]⟩) ?_
    rintro v h' f rfl
    exact ⟨_, rfl, ret _ _ _ f r⟩
  · rw [if_neg h1, if_pos h2] at r
    refine callX_nil ((ok26p (R := fun q => q = 9218868437227405312) rfl h k0).mono fun v h' ⟨a, P, e1, e2⟩ => ⟨P.fr, show v = .float .f64 9218868437227405312 by rw [e1, e2]⟩) ?_
    rintro v h' f rfl
    exact ⟨_, rfl, ret _ _ _ f r⟩
  · rw [if_neg h1, if_neg h2, if_pos h3] at r
    refine callX_nil ((ok26n (R := fun q => q = 18442240474082181120) rfl h k0).mono fun v h' ⟨a, P, e1, e2⟩ => ⟨P.fr, show v = .float .f64 18442240474082181120 by rw [e1, e2]⟩) ?_
    rintro v h' f rfl
    exact ⟨_, rfl, ret _ _ _ f r⟩
  rw [if_neg h1, if_neg h2, if_neg h3] at r
  refine callX_nil ((ok31' hs (R := fun q => q = numF s.data.toList) rfl h k0).mono fun v h' ⟨a, P, e1, e2⟩ => ⟨P.fr, show v = .bool (numF s.data.toList) by rw [e1, e2]⟩) ?_
  rintro v h' f rfl
  refine ⟨_, rfl, cnd_not (fun hn => ret _ _ _ f (by rw [if_pos hn] at r; exact r)) fun hn => ?_⟩
  rw [if_neg (by rw [hn]; decide)] at r
  refine cnd_dec (fun hl => ret _ _ _ f (by rw [if_pos (by omega)] at r; exact r)) fun hl => ?_
  rw [if_neg (by omega)] at r
  have K : ∀ h5 : Heap, Fr [] h h5 → callX Tryz.prog 29 #[.float .f64 V, .int .i64 0] h5 [] fun v6 hv6 => ∃ r5 : Bool, v6 = .bool r5 ∧ cnd r5
      ((fun (v : Value) (h' : Heap) => ∃ (raV : Nat) (rbV : Int), Sy h [] h' [] ∧ v = Value.tuple #[Value.float FloatKind.f64 raV, Value.int IntKind.i64 rbV] ∧ R raV rbV) (.tuple #[.float .f64 0, .int .i64 2]) hv6)
      ((fun (v : Value) (h' : Heap) => ∃ (raV : Nat) (rbV : Int), Sy h [] h' [] ∧ v = Value.tuple #[Value.float FloatKind.f64 raV, Value.int IntKind.i64 rbV] ∧ R raV rbV) (.tuple #[.float .f64 V, .int .i64 0]) hv6) := by
    intro h5 f5
    refine callX_nil ((ok29z (x := V) (R := fun q => q = isInf (absM V)) rfl h5 k0).mono fun v h' ⟨a, P, e1, e2⟩ => ⟨P.fr, show v = .bool (isInf (absM V)) by rw [e1, e2]⟩) ?_
    rintro v h6 f6 rfl
    refine ⟨_, rfl, cnd_b (fun hi => ret _ _ _ (f5.trans f6.nil) (by rw [if_pos hi] at r; exact r)) fun hi => ret _ _ _ (f5.trans f6.nil) (by rw [if_neg (by rw [hi]; decide)] at r; exact r)⟩
  intro K0
  refine callX_nil (call28 (by omega) (hV hn (by omega)) (gl_fr g f)) ?_
  rintro v h4 f4 hv
  refine ⟨V, ?_⟩
  rcases hv with rfl | ⟨t, i, rfl⟩
  · exact .inl ⟨rfl, K _ (f.trans f4.nil)⟩
  · exact .inr ⟨t, i, rfl, K _ (f.trans f4.nil)⟩
theorem val37 (s : ByteArray) : ∃ V, numF s.data.toList = true → s.size ≤ 64 → P37 s V := by
  by_cases h : numF s.data.toList = true ∧ s.size ≤ 64
  · obtain ⟨st, rest, T⟩ := txt_of_num (by omega) h.1
    obtain ⟨V, hV⟩ := P37.all T (by omega)
    exact ⟨V, fun _ _ => hV⟩
  · exact ⟨0, fun a b => absurd ⟨a, b⟩ h⟩
theorem okReads {ss : List ByteArray} {R : Bool → Prop} (hs : ∀ s ∈ ss, s.size ≤ 9223372036854775807) (r : R true) : Ok3 ss R := by
  apply ok3; unfold T3
  refine ok9' (cnd_f rfl ⟨True, ⟨fun i => 0 ≤ i ∧ i ≤ 40, fun i => 40 - i.toNat, ⟨by omega, by omega⟩, ?_⟩, fun _ => r⟩)
  rintro i ⟨h0, h1⟩
  refine cnd_dec (fun hi => cnd_dec (fun hi2 => ⟨h0, hi, fun s es => ?_⟩) fun _ => trivial) fun _ => trivial
  obtain ⟨V, hV⟩ := val37 s
  have hss := hs s (List.mem_of_getElem? es)
  refine ok10' hss hV (ok11' hss hV (ok12' (cnd_f (by rw [beq_self_eq_true]; rfl) (cnd_f (by simp) ?_))))
  rw [wrapJ h0 (by omega)]
  exact ⟨⟨by omega, by omega⟩, by dsimp only; omega⟩
end Go.Proofs.YtfjflbapojgbhaaGreatDoor.N
