/- WeighWhole: a whole number's digits are read as it. Conditions: none. -/
import Derived.Test.YtfjflbapojgbhaaGreatDoorTWh
import Derived.Test.YtfjflbapojgbhaaGreatDoorWBack2
import Derived.Test.YtfjflbapojgbhaaGreatDoorWLaw2
namespace Go.Proofs.YtfjflbapojgbhaaGreatDoor.N
open Go.X Go.Proofs.YtfjflbapojgbhaaGreatDoor
set_option maxRecDepth 100000
set_option maxHeartbeats 1000000

theorem decF_lin : ∀ (D : List UInt8) (a : Nat), decF D a = a * 10 ^ D.length + decF D 0
  | [], a => by simp [decF]
  | c :: D, a => by
    show decF D (a * 10 + dgt c) = a * 10 ^ (D.length + 1) + decF D (0 * 10 + dgt c)
    rw [decF_lin D (a * 10 + dgt c), decF_lin D (0 * 10 + dgt c), Nat.add_mul, Nat.pow_succ, Nat.zero_mul, Nat.zero_add, Nat.mul_assoc, Nat.mul_comm 10]
    omega
theorem fold_z : ∀ (k : Nat) (st : RS), st.nd ≠ 0 → st.nm ≤ 19 → ∃ a g, fD (bb (List.replicate k 48)) st = ⟨st.m * 10 ^ a, st.tr, st.dot, g, st.nd + k, st.nm + a, st.dp⟩ ∧ st.nm + a ≤ 19 ∧ a ≤ k
  | 0, st, _, h => ⟨0, st.dig, by rw [Nat.pow_zero, Nat.mul_one]; rfl, h, Nat.le_refl _⟩
  | k + 1, st, hn, h => by
    rw [List.replicate_succ]
    have e0 : dgt (by8 48) = 0 := by decide
    have e : fD (bb (48 :: List.replicate k 48)) st = fD (bb (List.replicate k 48)) (stepD st (dgt (by8 48))) := rfl
    rw [e, e0]
    by_cases h19 : st.nm < 19
    · have es : stepD st 0 = ⟨st.m * 10 + 0, st.tr, st.dot, true, st.nd + 1, st.nm + 1, st.dp⟩ := by unfold stepD; rw [if_neg (fun h => hn h.2), if_pos h19]
      obtain ⟨a, g, q1, q2, q3⟩ := fold_z k (stepD st 0) (by rw [es]; exact Nat.succ_ne_zero _) (by rw [es]; show st.nm + 1 ≤ 19; omega)
      rw [q1, es]
      rw [es] at q2
      refine ⟨a + 1, g, ?_, ?_, by omega⟩
      · dsimp only
        rw [Nat.add_zero, Nat.mul_assoc, ← Nat.pow_succ', Nat.add_assoc, Nat.add_comm 1 k, Nat.add_assoc, Nat.add_comm 1 a]
      · dsimp only at q2; omega
    · have es : stepD st 0 = ⟨st.m, st.tr || decide ((0 : Nat) ≠ 0), st.dot, true, st.nd + 1, st.nm, st.dp⟩ := by unfold stepD; rw [if_neg (fun h => hn h.2), if_neg h19]
      have et : (st.tr || decide ((0 : Nat) ≠ 0)) = st.tr := by simp
      rw [et] at es
      obtain ⟨a, g, q1, q2, q3⟩ := fold_z k (stepD st 0) (by rw [es]; exact Nat.succ_ne_zero _) (by rw [es]; exact h)
      rw [q1, es]
      rw [es] at q2
      refine ⟨a, g, ?_, q2, by omega⟩
      dsimp only
      rw [Nat.add_assoc, Nat.add_comm 1 k]
theorem spec_ne {l r : List UInt8} {ng : Bool} {a : UInt8} (hl : l = (if ng then [45] else []) ++ a :: r) (ha : isD a = true) : l ≠ [78, 97, 78] ∧ l ≠ [73, 78, 70] ∧ l ≠ [45, 73, 78, 70] := by
  have hd := isD_iff.1 ha
  subst hl
  cases ng
  · refine ⟨fun e => ?_, fun e => ?_, fun e => ?_⟩
    · have : a = 78 := (List.cons.inj e).1
      rw [this] at hd; exact absurd hd (by decide)
    · have : a = 73 := (List.cons.inj e).1
      rw [this] at hd; exact absurd hd (by decide)
    · have : a = 45 := (List.cons.inj e).1
      rw [this] at hd; exact absurd hd (by decide)
  · refine ⟨fun e => ?_, fun e => ?_, fun e => ?_⟩
    · have : (45 : UInt8) = 78 := (List.cons.inj e).1
      exact absurd this (by decide)
    · have : (45 : UInt8) = 73 := (List.cons.inj e).1
      exact absurd this (by decide)
    · have : a = 73 := (List.cons.inj (List.cons.inj e).2).1
      rw [this] at hd; exact absurd hd (by decide)
theorem fin_val {x N : Nat} {s : Bool} (hx : isNaN x = false) (hv : Val x s N) (hN : N < 4294967296) : isInf (absM x) = false := by
  obtain ⟨m, i, hr, hm⟩ := hv
  unfold isInf
  rw [order_gt (by rw [absM_nan]; exact hx) (by decide), key_abs]
  refine decide_eq_false ?_
  have hk : key x = Ieee.signed s m (i + 1074).toNat := by unfold key; rw [hr]; rfl
  rw [hk, signed_shift, ← W_def, hm]
  have hmax : key MAXF = ((9007199254740991 * W 971 : Nat) : Int) := by decide +kernel
  have hW : W 0 ≤ W 971 := by unfold W; exact Nat.pow_le_pow_right (by decide) (by omega)
  have h1 : N * W 0 ≤ 9007199254740991 * W 971 := Nat.mul_le_mul (by omega) hW
  rw [hmax]
  generalize N * W 0 = a at *
  generalize 9007199254740991 * W 971 = b at *
  split <;> omega
/-- The text, and what is read of it. -/
theorem whole_read {N zs e : Nat} {ng : Bool} {D : List UInt8} {s : ByteArray} (hN : N < 4294967296) (hz : zs ≤ 12) (he : e ≤ 9) (hD : ∀ c ∈ D, isD c = true) (hD0 : D ≠ []) (hDl : D.length ≤ 10) (hv : decF D 0 = N)
    (hs : s.data.toList = (if ng then [45] else []) ++ ((bb (List.replicate zs 48) ++ (D ++ bb (List.replicate e 48))) ++ (46 :: ([48] ++ bb (List.replicate zs 48)) ++ [101, 45, by8 ((48 + e : Nat) : Int)]))) :
    ∃ V, P37 s V ∧ numF s.data.toList = true ∧ s.size ≤ 60 ∧ isInf (absM V) = false ∧ s.data.toList ≠ [78, 97, 78] ∧ s.data.toList ≠ [73, 78, 70] ∧ s.data.toList ≠ [45, 73, 78, 70] ∧ (N ≠ 0 → V = fM N ng) ∧ (N = 0 → V = sgnN ng) := by
  have hbl : ∀ L : List Int, (bb L).length = L.length := fun L => List.length_map _
  have hde : dig ((48 + e : Nat) : Int) := by unfold dig; omega
  have hX : Expo [101, 45, by8 ((48 + e : Nat) : Int)] 101 [45] [by8 ((48 + e : Nat) : Int)] := ⟨rfl, .inl rfl, .inr (.inr rfl), by simp, by simp, fun c hc => (by simp at hc; subst hc; exact by_dig hde)⟩
  have heX : eVal [101, 45, by8 ((48 + e : Nat) : Int)] = -(e : Int) := by
    show -((decV [by8 ((48 + e : Nat) : Int)] : Nat) : Int) = _
    have : decV [by8 ((48 + e : Nat) : Int)] = e := by
      show 0 * 10 + ((by8 ((48 + e : Nat) : Int)).toNat - 48) = e
      rw [by_nat hde]; omega
    rw [this]
  have hzd : ∀ k, ∀ c ∈ bb (List.replicate k 48), isD c = true := fun k => bb_dig (rep_dig k)
  have hF : Form ((bb (List.replicate zs 48) ++ (D ++ bb (List.replicate e 48))) ++ (46 :: ([48] ++ bb (List.replicate zs 48)) ++ [101, 45, by8 ((48 + e : Nat) : Int)])) (bb (List.replicate zs 48) ++ (D ++ bb (List.replicate e 48))) ([48] ++ bb (List.replicate zs 48)) [101, 45, by8 ((48 + e : Nat) : Int)] true := by
    refine ⟨rfl, fun h => ?_, fun c hc => ?_, fun _ => by simp, fun h => (by cases h), fun c hc => ?_, .inr ⟨_, _, _, hX⟩, fun c sg d h => h.le⟩
    · simp only [List.append_eq_nil_iff] at h; exact hD0 h.2.1
    · rcases List.mem_append.1 hc with hc | hc
      · exact hzd _ c hc
      · rcases List.mem_append.1 hc with hc | hc
        · exact hD c hc
        · exact hzd _ c hc
    · rcases List.mem_append.1 hc with hc | hc
      · simp at hc; subst hc; decide
      · exact hzd _ c hc
  have hhd : ∃ a r, (bb (List.replicate zs 48) ++ (D ++ bb (List.replicate e 48))) ++ (46 :: ([48] ++ bb (List.replicate zs 48)) ++ [101, 45, by8 ((48 + e : Nat) : Int)]) = a :: r ∧ isD a = true := by
    obtain ⟨a, A', hA⟩ := List.exists_cons_of_ne_nil hF.a
    exact ⟨a, _, by rw [hA]; rfl, hF.ad a (by rw [hA]; simp)⟩
  obtain ⟨d1, d2⟩ := drop_sign (ng := ng) hhd
  rw [← hs] at d1 d2
  have hsz : s.size ≤ 60 := by
    rw [size_list, hs]
    have : (if ng = true then [(45 : UInt8)] else []).length ≤ 1 := by cases ng <;> decide
    simp only [List.length_append, List.length_cons, List.length_nil, hbl, List.length_replicate]
    omega
  have hT := hF.txt d1 (by omega)
  obtain ⟨a0, r0, hh1, hh2⟩ := hhd
  obtain ⟨n1, n2, n3⟩ := spec_ne (hs.trans (by rw [hh1])) hh2
  -- the scan
  obtain ⟨g0, f0⟩ := fold_lead zs RS0 rfl
  have eA : fD (bb (List.replicate zs 48) ++ (D ++ bb (List.replicate e 48))) RS0 = fD (D ++ bb (List.replicate e 48)) (fD (bb (List.replicate zs 48)) RS0) := List.foldl_append
  rw [f0] at eA
  have hlen2 : (D ++ bb (List.replicate e 48)).length ≤ 19 := by rw [List.length_append, hbl, List.length_replicate]; omega
  obtain ⟨a1, a2, a3, a4, a5, a6⟩ := fold_few (D ++ bb (List.replicate e 48)) ⟨RS0.m, RS0.tr, RS0.dot, g0, 0, RS0.nm, RS0.dp - zs⟩ rfl (fun _ => rfl) (by show 0 + _ ≤ 19; omega)
  rw [← eA] at a1 a2 a3 a4 a6
  have hv2 : decF (D ++ bb (List.replicate e 48)) 0 = N * 10 ^ e := by rw [decF_app, hv, decF_rep]
  have a1 : (fD (bb (List.replicate zs 48) ++ (D ++ bb (List.replicate e 48))) RS0).m = N * 10 ^ e := a1.trans hv2
  have a2 : (fD (bb (List.replicate zs 48) ++ (D ++ bb (List.replicate e 48))) RS0).tr = false := a2
  have a4 : (fD (bb (List.replicate zs 48) ++ (D ++ bb (List.replicate e 48))) RS0).nm ≤ 0 + (D ++ bb (List.replicate e 48)).length := a4
  have eB : [48] ++ bb (List.replicate zs 48) = bb (List.replicate (zs + 1) 48) := by rw [List.replicate_succ]; rfl
  generalize fD (bb (List.replicate zs 48) ++ (D ++ bb (List.replicate e 48))) RS0 = sA at *
  have htr : ∀ k st, st.tr = false → (fD (bb (List.replicate k 48)) st).tr = false := by
    intro k
    induction k with
    | zero => intro st h; exact h
    | succ k ih =>
      intro st h
      rw [List.replicate_succ]
      show (fD (bb (List.replicate k 48)) (stepD st (dgt (by8 48)))).tr = false
      refine ih _ ?_
      have e0 : dgt (by8 48) = 0 := by decide
      rw [e0]
      unfold stepD
      split
      · exact h
      · split
        · exact h
        · show (st.tr || decide ((0 : Nat) ≠ 0)) = false; rw [h]; rfl
  have hTt : (fD ([48] ++ bb (List.replicate zs 48)) (dotS sA)).tr = false := by rw [eB]; exact htr _ _ a2
  have hP := P37.of hT hTt
  rw [d2] at hP
  by_cases h0 : N = 0
  · -- nothing but zeros
    have hm0 : ∀ k st, st.m = 0 → (fD (bb (List.replicate k 48)) st).m = 0 := by
      intro k
      induction k with
      | zero => intro st h; exact h
      | succ k ih =>
        intro st h
        rw [List.replicate_succ]
        show (fD (bb (List.replicate k 48)) (stepD st (dgt (by8 48)))).m = 0
        refine ih _ ?_
        have e0 : dgt (by8 48) = 0 := by decide
        rw [e0]
        unfold stepD
        split
        · exact h
        · split
          · show st.m * 10 + 0 = 0; rw [h]
          · exact h
    have hm : (fD ([48] ++ bb (List.replicate zs 48)) (dotS sA)).m = 0 := by
      rw [eB]; refine hm0 _ _ ?_
      show sA.m = 0
      rw [a1, h0, Nat.zero_mul]
    refine ⟨sgnN ng, ?_, hF.num d1, hsz, ?_, n1, n2, n3, fun h => absurd h0 h, fun _ => rfl⟩
    · have : (atofV (fD ([48] ++ bb (List.replicate zs 48)) (dotS sA)).m (expV (fD ([48] ++ bb (List.replicate zs 48)) (dotS sA)) [101, 45, by8 ((48 + e : Nat) : Int)]) ng).1 = sgnN ng := by
        unfold atofV
        rw [if_pos hm]
        cases ng <;> decide
      rw [← this]; exact hP
    · cases ng <;> decide
  · have hnd : sA.nd ≠ 0 := fun h => by
      have := a6 h
      rw [a1] at this
      exact h0 ((Nat.mul_eq_zero.1 this).resolve_right (Nat.ne_of_gt (Nat.pow_pos (by decide))))
    obtain ⟨a, g, q1, q2, q3⟩ := fold_z (zs + 1) (dotS sA) hnd (by show sA.nm ≤ 19; omega)
    rw [← eB] at q1
    have hm : (fD ([48] ++ bb (List.replicate zs 48)) (dotS sA)).m = N * 10 ^ (e + a) := by
      rw [q1]; show sA.m * 10 ^ a = _
      rw [a1, Nat.mul_assoc, ← Nat.pow_add]
    have hp : 0 < 10 ^ (e + a) := Nat.pow_pos (by decide)
    have hmne : (fD ([48] ++ bb (List.replicate zs 48)) (dotS sA)).m ≠ 0 := by rw [hm]; exact Nat.mul_ne_zero h0 (by omega)
    have hex : expV (fD ([48] ++ bb (List.replicate zs 48)) (dotS sA)) [101, 45, by8 ((48 + e : Nat) : Int)] = -((e + a : Nat) : Int) := by
      unfold expV
      rw [if_pos hmne, heX, q1]
      show (if true = true then ((sA.nd : Nat) : Int) else _) + -(e : Int) - ((sA.nm + a : Nat) : Int) = _
      rw [if_pos rfl]; omega
    have hlt : (fD ([48] ++ bb (List.replicate zs 48)) (dotS sA)).m < 10000000000000000000 := scan_lt (a := RS0) (by decide) (by decide) hT.sc
    obtain ⟨M, e', m1, m2, hI, _⟩ := in_norm h0 (show N < 2 ^ 53 by rw [p53]; omega)
    have hten : ten (-((e + a : Nat) : Int)) = 1 := by unfold ten; rw [show (-((e + a : Nat) : Int)).toNat = 0 by omega, Nat.pow_zero]
    have htenn : tenn (-((e + a : Nat) : Int)) = 10 ^ (e + a) := by unfold tenn; rw [Int.neg_neg, Int.toNat_natCast]
    have hI2 : In (4 * ((fD ([48] ++ bb (List.replicate zs 48)) (dotS sA)).m * ten (-((e + a : Nat) : Int))) * W 0) (tenn (-((e + a : Nat) : Int))) M e' := by
      refine hI.scale (by decide) ?_ (tenn_pos _)
      rw [hten, htenn, hm, Nat.mul_one, Nat.mul_one]; ac_rfl
    have hM0 : 0 < M := by
      apply Nat.pos_of_ne_zero
      rintro rfl
      have := hI.up
      have hW := W_pos 0
      have hWe : W e' ≤ W 0 := by unfold W; exact Nat.pow_le_pow_right (by decide) (by omega)
      have h4 : 4 * 1 * W 0 ≤ 4 * N * W 0 := Nat.mul_le_mul_right _ (by omega)
      rw [Nat.mul_one (W e')] at this
      have h5 : (4 * 0 + 2) * W e' = 2 * W e' := rfl
      omega
    have hat := atof_in (ng := ng) (e := -((e + a : Nat) : Int)) (by omega) (by omega) hmne (by omega) (.inr ⟨N, by rw [hten, htenn, hm, Nat.mul_one], by omega⟩) hI2 hM0 (by omega)
    have hxx : fM N ng = bitsF M e' ng := by
      rw [fM_eq, ← word_bits]
      exact nearest_in (by decide) h0 (by decide) (stands_of (N := N * W 0) (by rw [Nat.mul_one]) (Nat.mul_assoc _ _ _)) hI (by omega)
    refine ⟨fM N ng, ?_, hF.num d1, hsz, ?_, n1, n2, n3, fun _ => rfl, fun h => absurd h h0⟩
    · have hP2 := hP
      rw [show (if true = true then dotS sA else sA) = dotS sA from rfl] at hP2
      rw [hex, hat] at hP2
      rw [hxx]; exact hP2
    · exact fin_val (by rw [fM_eq]; exact nn_nearest _ _ _) (fM_val ng h0 (by rw [p53]; omega)) hN
end Go.Proofs.YtfjflbapojgbhaaGreatDoor.N

/- WeighWhole: the plain law. Conditions: none. -/
namespace Go.Proofs.YtfjflbapojgbhaaGreatDoor.N
open Go.X Go.Proofs.YtfjflbapojgbhaaGreatDoor
set_option maxRecDepth 100000
set_option maxHeartbeats 1000000

theorem app_list (s t : ByteArray) : (s ++ t).data.toList = s.data.toList ++ t.data.toList := by rw [ByteArray.data_append, Array.toList_append]
theorem str_one (x : Int) : (strOf [x]).data.toList = [by8 x] := by rw [strOf_list]; rfl
theorem wrap8 {x : Int} (h0 : 0 ≤ x) (h1 : x < 256) : IntKind.u8.wrap x = x := by
  rw [IntKind.wrap_u8]; omega
theorem wrap32 {x : Int} (h0 : 0 ≤ x) (h1 : x < 4294967296) : IntKind.u32.wrap x = x := by
  rw [IntKind.wrap_u32]; omega
theorem fM0 (ng : Bool) : sgnN ng = fM 0 ng := by
  rw [fM_eq]
  cases ng <;> decide +kernel
theorem fM_t (N : Nat) : Op.negFloat .f64 (FloatKind.f64.nearest (N : Int)) = fM N true := by unfold fM; rw [if_pos rfl]
theorem fM_f (N : Nat) : FloatKind.f64.nearest (N : Int) = fM N false := by unfold fM; rw [if_neg (by decide)]
theorem rep_snoc (k : Nat) : bb (List.replicate k 48) ++ [48] = bb (List.replicate (k + 1) 48) := by
  rw [List.replicate_succ', bb, bb, List.map_append]; rfl
theorem emp_iff (d : ByteArray) : (d.toList == (⟨#[]⟩ : ByteArray).toList) = d.data.toList.isEmpty := toLe d
theorem by8_dgt {k : Int} (h : 0 ≤ k) : isD (by8 (48 + Int.tmod k 10)) = true ∧ dgt (by8 (48 + Int.tmod k 10)) = k.toNat % 10 := by
  have e : Int.tmod k 10 = ((k.toNat % 10 : Nat) : Int) := by
    rw [Int.tmod_eq_emod_of_nonneg h]; omega
  rw [e]
  have hd : dig (48 + ((k.toNat % 10 : Nat) : Int)) := by unfold dig; omega
  refine ⟨by_dig hd, ?_⟩
  show (by8 (48 + ((k.toNat % 10 : Nat) : Int))).toNat - 48 = _
  rw [by_nat hd]; omega
/-- One digit more. -/
theorem dig_more {k : Int} {d : ByteArray} {N : Nat} (hk : 0 ≤ k) (hv : N = k.toNat * 10 ^ d.data.toList.length + decF d.data.toList 0) : N = k.toNat / 10 * 10 ^ (d.data.toList.length + 1) + decF (by8 (48 + Int.tmod k 10) :: d.data.toList) 0 := by
  obtain ⟨_, b2⟩ := by8_dgt hk
  have e1 : decF (by8 (48 + Int.tmod k 10) :: d.data.toList) 0 = decF d.data.toList (0 * 10 + dgt (by8 (48 + Int.tmod k 10))) := rfl
  rw [e1, decF_lin, b2, Nat.pow_succ, hv, Nat.zero_mul, Nat.zero_add]
  have := Nat.div_add_mod k.toNat 10
  generalize 10 ^ d.data.toList.length = P
  generalize decF d.data.toList 0 = Q
  have e : k.toNat * P = (k.toNat / 10) * (P * 10) + k.toNat % 10 * P := by
    rw [show k.toNat / 10 * (P * 10) = (10 * (k.toNat / 10)) * P by ac_rfl, ← Nat.add_mul, this]
  omega
theorem whole_text {N z0 e0 : Nat} {ng : Bool} {s z d d2 : ByteArray} (hN : N < 4294967296) (hz : z0 ≤ 12) (he : e0 ≤ 9) (hD : ∀ c ∈ d.data.toList, isD c = true) (hD0 : d.data.toList ≠ []) (hl : d.data.toList.length ≤ 10) (hv : decF d.data.toList 0 = N)
    (hs : s.data.toList = if ng then [45] else []) (hzl : z.data.toList = bb (List.replicate z0 48)) (hdl : d2.data.toList = d.data.toList ++ bb (List.replicate e0 48)) {S : ByteArray} (hS : S = (((((s ++ z) ++ d2) ++ ⟨#[46, 48]⟩) ++ z) ++ ⟨#[101, 45]⟩) ++ strOf [IntKind.u8.wrap (48 + (e0 : Int))]) {R : Nat → Int → Prop} (r : R (fM N ng) 0) : Ok10 S R := by
  obtain ⟨V, w1, w2, w3, w4, w5, w6, w7, w8, w9⟩ := whole_read (N := N) (zs := z0) (e := e0) (ng := ng) (D := d.data.toList) (s := S) hN hz he hD hD0 hl hv (by
    rw [wrap8 (by omega) (by omega), show (48 + (e0 : Int)) = ((48 + e0 : Nat) : Int) by omega] at hS
    rw [hS]
    simp only [app_list, str_one, hs, hzl, hdl]
    simp only [List.append_assoc]
    rfl)
  have hV : V = fM N ng := by
    by_cases h0 : N = 0
    · rw [w9 h0, h0]; exact fM0 ng
    · exact w8 h0
  subst hV
  clear hS w8 w9
  refine ok10' (V := fM N ng) (by omega) (fun _ _ => w1) ?_
  have hr : readV S.data.toList (fM N ng) = (fM N ng, 0) := by
    unfold readV
    rw [if_neg w5, if_neg w6, if_neg w7, if_neg (by rw [w2]; decide), if_neg (by rw [← size_list]; omega), if_neg (by rw [w4]; decide)]
  rw [hr]
  exact r
theorem whole_tail {N z0 e0 : Nat} {ng : Bool} {s z d d2 : ByteArray} {R : Bool → Prop} (hN : N < 4294967296) (hz : z0 ≤ 12) (he : e0 ≤ 9) (hD : ∀ c ∈ d.data.toList, isD c = true) (hD0 : d.data.toList ≠ []) (hl : d.data.toList.length ≤ 10) (hv : decF d.data.toList 0 = N)
    (hs : s.data.toList = if ng then [45] else []) (hzl : z.data.toList = bb (List.replicate z0 48)) (hdl : d2.data.toList = d.data.toList ++ bb (List.replicate e0 48)) (hdl2 : d2.size ≤ 20) (r : R true) :
    ((((s.size + z.size : Nat)) : Int) ≤ 9223372036854775807 ∧ ((((s ++ z).size + d2.size : Nat)) : Int) ≤ 9223372036854775807 ∧ (((((s ++ z) ++ d2).size + (⟨#[46, 48]⟩ : ByteArray).size : Nat)) : Int) ≤ 9223372036854775807 ∧ ((((((s ++ z) ++ d2) ++ (⟨#[46, 48]⟩ : ByteArray)).size + z.size : Nat)) : Int) ≤ 9223372036854775807 ∧ (((((((s ++ z) ++ d2) ++ (⟨#[46, 48]⟩ : ByteArray)) ++ z).size + (⟨#[101, 45]⟩ : ByteArray).size : Nat)) : Int) ≤ 9223372036854775807 ∧ ((((((((s ++ z) ++ d2) ++ (⟨#[46, 48]⟩ : ByteArray)) ++ z) ++ (⟨#[101, 45]⟩ : ByteArray)).size + (strOf ([(IntKind.u8.wrap ((48 : Int) + (e0 : Int)))] : List Int)).size : Nat)) : Int) ≤ 9223372036854775807 ∧ Ok10 ((((((s ++ z) ++ d2) ++ (⟨#[46, 48]⟩ : ByteArray)) ++ z) ++ (⟨#[101, 45]⟩ : ByteArray)) ++ (strOf ([(IntKind.u8.wrap ((48 : Int) + (e0 : Int)))] : List Int))) (fun ra rb =>
      ∃ Jv_3 : Prop,
      ( cnd (rb == (0 : Int))
         (Ok12 ra (fM N ng) (fun r2 =>
         cnd r2
           (R true)
           (cnd ((N : Int) == (0 : Int))
             (R ((FloatKind.f64).format.order ra 0 == some .eq))
             (Jv_3))))
         (Jv_3)) ∧
      (Jv_3 →
      R false))) := by
  have z1 : z.size ≤ 12 := by rw [size_list, hzl, bb, List.length_map, List.length_replicate]; exact hz
  have z2 : s.size ≤ 1 := by rw [size_list, hs]; cases ng <;> decide
  have c1 : (⟨#[46, 48]⟩ : ByteArray).size = 2 := rfl
  have c2 : (⟨#[101, 45]⟩ : ByteArray).size = 2 := rfl
  have c3 : (strOf [IntKind.u8.wrap (48 + (e0 : Int))]).size = 1 := by rw [size_list, str_one]; rfl
  have a1 : (s ++ z).size ≤ 13 := by rw [ByteArray.size_append]; omega
  have a2 : ((s ++ z) ++ d2).size ≤ 33 := by rw [ByteArray.size_append]; omega
  have a3 : (((s ++ z) ++ d2) ++ (⟨#[46, 48]⟩ : ByteArray)).size ≤ 35 := by rw [ByteArray.size_append]; omega
  have a4 : ((((s ++ z) ++ d2) ++ (⟨#[46, 48]⟩ : ByteArray)) ++ z).size ≤ 47 := by rw [ByteArray.size_append]; omega
  have a5 : (((((s ++ z) ++ d2) ++ (⟨#[46, 48]⟩ : ByteArray)) ++ z) ++ (⟨#[101, 45]⟩ : ByteArray)).size ≤ 49 := by rw [ByteArray.size_append]; omega
  refine ⟨by omega, by omega, by omega, by omega, by omega, by omega, ?_⟩
  refine whole_text hN hz he hD hD0 hl hv hs hzl hdl rfl ?_
  exact ⟨False, cnd_t rfl (ok12' (cnd_t (beq_self_eq_true _) r)), fun h => h.elim⟩
theorem okWhole {n zs ev : Int} {ng : Bool} {R : Bool → Prop} (hn : 0 ≤ n ∧ n < 4294967296) (hz : 0 ≤ zs ∧ zs < 256) (he : 0 ≤ ev ∧ ev < 256) (r : R true) : Ok4 n zs ev ng R := by
  apply ok4; unfold T4
  refine ok9' (cnd_f rfl (cnd_dec (fun _ => r) fun hz2 => cnd_dec (fun _ => r) fun he2 => ?_))
  obtain ⟨N, rfl⟩ : ∃ N : Nat, n = N := ⟨n.toNat, by omega⟩
  obtain ⟨z0, rfl⟩ : ∃ z0 : Nat, zs = z0 := ⟨zs.toNat, by omega⟩
  obtain ⟨e0, rfl⟩ : ∃ e0 : Nat, ev = e0 := ⟨ev.toNat, by omega⟩
  refine ⟨fun d k => 0 ≤ k ∧ (∀ c ∈ d.data.toList, isD c = true) ∧ N = k.toNat * 10 ^ d.data.toList.length + decF d.data.toList 0 ∧ d.data.toList.length ≤ 10, fun d k => 2 * k.toNat + (if d.data.toList = [] then 1 else 0), ⟨by omega, by simp, ?_, by simp⟩, ?_⟩
  · show N = (N : Int).toNat * 10 ^ 0 + 0
    omega
  rintro d k ⟨hk, hD, hv, hl⟩
  refine ⟨k > 0 ∨ d.data.toList = [], ?_, ?_⟩
  · refine cnd_dec (fun h => .inl h) fun h => ?_
    rw [emp_iff]
    refine cnd_b (fun h2 => .inr (by simpa using h2)) fun h2 => ?_
    have hk0 : k = 0 := by omega
    subst hk0
    have hD0 : d.data.toList ≠ [] := fun e => by rw [e] at h2; simp at h2
    have hv : decF d.data.toList 0 = N := by
      rw [hv]; show _ = 0 * _ + _; rw [Nat.zero_mul, Nat.zero_add]
    clear h h2 hk
    refine ⟨fun x s => x = fM N ng ∧ s.data.toList = if ng then [45] else [], ?_, ?_⟩
    · refine cnd_b (fun h => ?_) fun h => ?_
      · subst h; exact ⟨fM_t N, rfl⟩
      · subst h; exact ⟨fM_f N, rfl⟩
    rintro _ s ⟨rfl, hs⟩
    refine ⟨fun z i => 0 ≤ i ∧ i ≤ z0 ∧ z.data.toList = bb (List.replicate i.toNat 48), fun _ i => z0 - i.toNat, ⟨by omega, by omega, rfl⟩, ?_⟩
    have hbl : ∀ L : List Int, (bb L).length = L.length := fun L => List.length_map _
    have hsz : ∀ s : ByteArray, s.size = s.data.toList.length := fun s => rfl
    have hng : (if ng then [(45 : UInt8)] else []).length ≤ 1 := by cases ng <;> decide
    rintro z i ⟨i0, i1, hzl⟩
    refine cnd_dec (fun hi => ?_) fun hi => ?_
    · rw [wrap8 (by omega) (by omega)]
      refine ⟨?_, ⟨by omega, by omega, ?_⟩, ?_⟩
      · rw [hsz z, hzl, hbl, List.length_replicate, hsz]
        show ((i.toNat + 1 : Nat) : Int) ≤ _
        omega
      · rw [app_list, hzl, show (i + 1).toNat = i.toNat + 1 by omega, ← rep_snoc]
      · dsimp only; omega
    have hiz : i.toNat = z0 := by omega
    rw [hiz] at hzl
    clear hi hiz
    clear i1 i0 i
    refine ⟨fun d2 i => 0 ≤ i ∧ i ≤ e0 ∧ d2.data.toList = d.data.toList ++ bb (List.replicate i.toNat 48), fun _ i => e0 - i.toNat, ⟨by omega, by omega, by simp [bb]⟩, ?_⟩
    rintro d2 i ⟨i0, i1, hdl⟩
    have hdl2 : d2.size ≤ 20 := by rw [hsz, hdl, List.length_append, hbl, List.length_replicate]; omega
    refine cnd_dec (fun hi => ?_) fun hi => ?_
    · rw [wrap8 (by omega) (by omega)]
      refine ⟨?_, ⟨by omega, by omega, ?_⟩, ?_⟩
      · have : (⟨#[48]⟩ : ByteArray).size = 1 := rfl
        omega
      · rw [app_list, hdl, show (i + 1).toNat = i.toNat + 1 by omega, List.append_assoc, ← rep_snoc]
      · dsimp only; omega
    have hie : i.toNat = e0 := by omega
    rw [hie] at hdl
    clear hi hie
    clear i1 i0 i
    exact whole_tail (by omega) (by omega) (by omega) hD hD0 hl hv hs hzl hdl hdl2 r
  · intro hc
    have hk10 : d.data.toList.length ≤ 9 := by
      rcases hc with h | h
      · have h1 : 1 * 10 ^ d.data.toList.length ≤ k.toNat * 10 ^ d.data.toList.length := Nat.mul_le_mul_right _ (by omega)
        have h2 : 10 ^ d.data.toList.length < 10 ^ 10 := by
          have : (10 : Nat) ^ 10 = 10000000000 := by decide
          omega
        have := (Nat.pow_lt_pow_iff_right (a := 10) (by decide)).1 h2
        omega
      · rw [h]; simp
    have hkn : k.toNat < 4294967296 := by
      have h1 : k.toNat * 1 ≤ k.toNat * 10 ^ d.data.toList.length := Nat.mul_le_mul_left _ (Nat.pow_pos (by decide))
      omega
    have e10 : Int.tmod k 10 = ((k.toNat % 10 : Nat) : Int) := by rw [Int.tmod_eq_emod_of_nonneg hk]; omega
    have t10 : Int.tdiv k 10 = ((k.toNat / 10 : Nat) : Int) := by rw [Int.tdiv_eq_ediv_of_nonneg hk]; omega
    obtain ⟨b1, b2⟩ := by8_dgt hk
    rw [wrap32 (x := 48 + Int.tmod k 10) (by omega) (by omega), wrap8 (x := 48 + Int.tmod k 10) (by omega) (by omega), wrap32 (x := Int.tdiv k 10) (by omega) (by omega)]
    have hsz : ∀ s : ByteArray, s.size = s.data.toList.length := fun s => rfl
    have hap : (strOf [48 + Int.tmod k 10] ++ d).data.toList = by8 (48 + Int.tmod k 10) :: d.data.toList := by rw [app_list, str_one]; rfl
    refine ⟨by decide, ?_, by decide, ⟨by omega, ?_, ?_, ?_⟩, ?_⟩
    · rw [hsz, str_one, hsz]; show ((1 + _ : Nat) : Int) ≤ _; omega
    · rw [hap]
      intro c hc2
      rcases List.mem_cons.1 hc2 with h | h
      · rw [h]; exact b1
      · exact hD c h
    · rw [hap, t10]; exact dig_more hk hv
    · rw [hap, List.length_cons]; omega
    · show 2 * (Int.tdiv k 10).toNat + (if (strOf [48 + Int.tmod k 10] ++ d).data.toList = [] then 1 else 0) < 2 * k.toNat + (if d.data.toList = [] then 1 else 0)
      rw [hap, t10, if_neg (List.cons_ne_nil _ _), Int.toNat_natCast]
      rcases hc with h | h
      · omega
      · rw [if_pos h]; omega
end Go.Proofs.YtfjflbapojgbhaaGreatDoor.N
