/- readFloat answers as the scan does, for texts of numbers. Conditions: none. -/
import Derived.Test.YtfjflbapojgbhaaGreatDoorWRead
namespace Go.Proofs.YtfjflbapojgbhaaGreatDoor.N
open Go.X Go.Proofs.YtfjflbapojgbhaaGreatDoor
set_option maxRecDepth 100000
set_option maxHeartbeats 4000000

theorem low101_0 : ∀ n : Fin 256, (bits .or .u8 ((n.val : Nat) : Int) 32 = 101) ↔ (n.val = 101 ∨ n.val = 69) := by decide +kernel
theorem low101 (c : UInt8) : (bits .or .u8 ((UInt8.toNat c : Nat) : Int) 32 = 101) ↔ (c = 101 ∨ c = 69) := by
  have := low101_0 ⟨c.toNat, c.toNat_lt⟩
  rw [this]
  exact ⟨fun h => h.imp (fun e => UInt8.toNat_inj.1 e) fun e => UInt8.toNat_inj.1 e, fun h => h.imp (fun e => by subst e; rfl) fun e => by subst e; rfl⟩
theorem eqB {c d : UInt8} : (((UInt8.toNat c : Nat) : Int) = (d.toNat : Int)) ↔ c = d :=
  ⟨fun h => UInt8.toNat_inj.1 (by omega), fun h => by rw [h]⟩
theorem decV_take {ds : List UInt8} {q : Nat} {d : UInt8} (h : ds[q]? = some d) : decV (ds.take (q + 1)) = decV (ds.take q) * 10 + (d.toNat - 48) := by
  rw [List.take_add_one, h]
  unfold decV
  rw [List.foldl_append]; rfl
theorem decV_lt {ds : List UInt8} (hd : ∀ d ∈ ds, 48 ≤ d.toNat ∧ d.toNat ≤ 57) : ∀ q, q ≤ ds.length → decV (ds.take q) < 10 ^ q
  | 0, _ => by simp [decV]
  | q + 1, hq => by
    have h := List.getElem?_eq_getElem (show q < ds.length by omega)
    have hm := hd _ (List.getElem_mem (show q < ds.length by omega))
    have ih := decV_lt hd q (by omega)
    rw [decV_take h, Nat.pow_succ]; omega
theorem eVal_eq {c : UInt8} {sg ds : List UInt8} (hsg : sg = [] ∨ sg = [43] ∨ sg = [45]) (hd : ∀ d ∈ ds, 48 ≤ d.toNat ∧ d.toNat ≤ 57) : eVal (c :: (sg ++ ds)) = (decV ds : Int) * (if sg = [45] then -1 else 1) := by
  rcases hsg with rfl | rfl | rfl
  · cases ds with
    | nil => simp [eVal, decV]
    | cons a b =>
      have ha := hd a (by simp)
      have e1 : a ≠ 43 := fun e => by subst e; simp at ha
      have e2 : a ≠ 45 := fun e => by subst e; simp at ha
      simp only [eVal, List.nil_append, List.head?_cons, Option.some.injEq, if_neg e1, if_neg e2]
      simp
  · simp [eVal]
  · simp [eVal]
theorem readTail {s : ByteArray} {ng : Bool} {j : Nat} {stF : RS} {rest : List UInt8} {R : Int → Int → Bool → Bool → Bool → Int → Bool → Prop} (hs : s.size < 100000) (hnu : ∀ c ∈ s.data.toList, c ≠ 95) (hj : j ≤ s.data.toList.length)
    (hsc : scan RS0 (s.data.toList.drop j) = (stF, rest)) (hdig : stF.dig = true) (hrest : rest = [] ∨ ∃ c sg ds, Expo rest c sg ds)
    (r : R stF.m (expV stF rest) ng stF.tr false s.data.toList.length true) : T79b s ng j R := by
  have hsz : s.size = s.data.toList.length := rfl
  generalize hl : s.data.toList = l at *
  have at' : ∀ k : Nat, s[k]? = l[k]? := fun k => by rw [getB, hl]
  have hI0 : Inv l stF rest RS0 j := ⟨hsc, by decide, by decide, by decide, Nat.zero_le _, by show -(j : Int) ≤ 0; omega, by show (0 : Int) ≤ j; omega, hj⟩
  unfold T79b
  refine ⟨fun a b i c d e f g h => a = stF.m ∧ b = stF.tr ∧ c = false ∧ d = stF.dot ∧ e = stF.dig ∧ f = stF.nd ∧ g = stF.nm ∧ h = stF.dp ∧ ∃ k : Nat, i = k ∧ Inv l stF rest stF k ∧ rest = l.drop k,
    ⟨fun a b i c d e f g h => ∃ (st : RS) (k : Nat), a = st.m ∧ b = st.tr ∧ i = k ∧ c = false ∧ d = st.dot ∧ e = st.dig ∧ f = st.nd ∧ g = st.nm ∧ h = st.dp ∧ Inv l stF rest st k,
     fun _ _ i _ _ _ _ _ _ => l.length - i.toNat, ⟨RS0, j, rfl, rfl, rfl, rfl, rfl, rfl, rfl, rfl, rfl, hI0⟩, ?_⟩, ?_⟩
  · rintro _ _ _ _ _ _ _ _ _ ⟨st, k, rfl, rfl, rfl, rfl, rfl, rfl, rfl, rfl, rfl, hI⟩
    rw [hsz]
    refine cnd_dec (fun hlt => ?_) fun hge => ?_
    · have hk : k < l.length := by omega
      refine ⟨fun a b c d e f g h => ∃ st' : RS, a = st'.m ∧ b = st'.tr ∧ c = false ∧ d = st'.dot ∧ e = st'.dig ∧ f = st'.nd ∧ g = st'.nm ∧ h = st'.dp ∧ Inv l stF rest st' (k + 1), ?_, ?_⟩
      · obtain ⟨c, hc⟩ : ∃ c, l[k]? = some c := ⟨_, List.getElem?_eq_getElem hk⟩
        have hcm : c ∈ l := List.mem_of_getElem? hc
        have exit : (c = 46 ∧ st.dot = true) ∨ (c ≠ 46 ∧ isD c = false) → ((st.m : Int) = stF.m ∧ st.tr = stF.tr ∧ false = false ∧ st.dot = stF.dot ∧ st.dig = stF.dig ∧ (st.nd : Int) = stF.nd ∧ (st.nm : Int) = stF.nm ∧ st.dp = stF.dp ∧ ∃ k' : Nat, (k : Int) = k' ∧ Inv l stF rest stF k' ∧ rest = l.drop k') := by
          intro hd
          obtain ⟨rfl, e2⟩ := hI.stop hc hd
          exact ⟨rfl, rfl, rfl, rfl, rfl, rfl, rfl, rfl, k, rfl, hI, e2⟩
        refine ⟨by omega, hlt, c, by rw [Int.toNat_natCast, at', hc], cnd_f (c95 (hnu c hcm)) ?_⟩
        rw [c46]
        refine cnd_dec (fun h46 => ?_) fun h46 => ?_
        · subst h46
          refine cnd_b (fun hd => exit (.inl ⟨rfl, hd⟩)) fun hd => ⟨dotS st, rfl, rfl, rfl, rfl, rfl, rfl, rfl, rfl, hI.dots hc hd⟩
        · refine ⟨fun x => x = isD c, cnd_dec (fun h => ?_) fun h => ?_, ?_⟩
          · have h1 : 48 ≤ c.toNat := by omega
            simp only [isD, decide_eq_true h1, Bool.true_and]
            by_cases h2 : c.toNat ≤ 57
            · rw [decide_eq_true h2, decide_eq_true (show ((c.toNat : Nat) : Int) ≤ 57 by omega)]; rfl
            · rw [decide_eq_false h2, decide_eq_false (show ¬ ((c.toNat : Nat) : Int) ≤ 57 by omega)]; rfl
          · have h1 : ¬ 48 ≤ c.toNat := by omega
            simp only [isD, decide_eq_false h1, Bool.false_and]; rfl
          rintro _ rfl
          refine cnd_b (fun hd => ?_) fun hd => ?_
          · have hI2 := hI.step hc hd h46
            simp only [isD, Bool.and_eq_true, decide_eq_true_eq] at hd
            have e48 : (((c.toNat : Nat) : Int) = 48) ↔ c.toNat - 48 = 0 := by omega
            refine ⟨¬ (c.toNat - 48 = 0 ∧ st.nd = 0), cnd_eq (fun h0 => cnd_eq (fun hn => ?_) fun hn => fun q => hn (by omega)) fun h0 => fun q => h0 (e48.2 q.1), fun hq => ?_⟩
            · have hz : c.toNat - 48 = 0 ∧ st.nd = 0 := ⟨e48.1 h0, by omega⟩
              have hst : stepD st (c.toNat - 48) = ⟨st.m, st.tr, st.dot, true, st.nd, st.nm, st.dp - 1⟩ := by unfold stepD; rw [if_pos hz]
              rw [hst] at hI2
              have hb := hI.d0; have hb1 := hI.d1
              exact ⟨⟨st.m, st.tr, st.dot, true, st.nd, st.nm, st.dp - 1⟩, rfl, rfl, rfl, rfl, rfl, rfl, rfl, wr (by omega) (by omega), hI2⟩
            · have hnd := hI.nd
              have hnd1 : IntKind.i64.wrap ((st.nd : Int) + 1) = ((st.nd + 1 : Nat) : Int) := wr1 (by omega)
              rw [hnd1]
              refine ⟨fun a b g => ∃ st' : RS, stepD st (c.toNat - 48) = st' ∧ a = st'.m ∧ b = st'.tr ∧ g = st'.nm, cnd_dec (fun h19 => ?_) fun h19 => ?_, ?_⟩
              · have hst : stepD st (c.toNat - 48) = ⟨st.m * 10 + (c.toNat - 48), st.tr, st.dot, true, st.nd + 1, st.nm + 1, st.dp⟩ := by unfold stepD; rw [if_neg hq, if_pos (by omega)]
                have hm := hI2.lt64
                rw [hst] at hm
                have hm : st.m * 10 + (c.toNat - 48) < 10000000000000000000 := hm
                refine ⟨_, hst, ?_, rfl, wr1 (by omega)⟩
                rw [u8w (x := ((c.toNat : Nat) : Int) - 48) (by omega) (by omega), show ((c.toNat : Nat) : Int) - 48 = ((c.toNat - 48 : Nat) : Int) by omega, wrapU' (a := c.toNat - 48) (by omega), show ((st.m : Nat) : Int) * 10 = ((st.m * 10 : Nat) : Int) by omega, wrapU' (a := st.m * 10) (by omega), ← Int.natCast_add, wrapU' (by omega)]
              · have hst : stepD st (c.toNat - 48) = ⟨st.m, st.tr || decide (c.toNat - 48 ≠ 0), st.dot, true, st.nd + 1, st.nm, st.dp⟩ := by unfold stepD; rw [if_neg hq, if_neg (by omega)]
                refine ⟨fun t => t = (st.tr || decide (c.toNat - 48 ≠ 0)), cnd_ne (fun h => ?_) fun h => ?_, ?_⟩
                · rw [decide_eq_true (show c.toNat - 48 ≠ 0 from fun q => h (e48.2 q)), Bool.or_true]
                · rw [decide_eq_false (show ¬ c.toNat - 48 ≠ 0 from fun q => q (e48.1 h)), Bool.or_false]
                · rintro _ rfl
                  exact ⟨_, hst, rfl, rfl, rfl⟩
              · rintro _ _ _ ⟨st', hst, rfl, rfl, rfl⟩
                rw [hst] at hI2
                have e5 : st'.dot = st.dot ∧ st'.dig = true ∧ st'.nd = st.nd + 1 ∧ st'.dp = st.dp := by
                  rw [← hst]; unfold stepD; rw [if_neg hq]; split <;> exact ⟨rfl, rfl, rfl, rfl⟩
                exact ⟨st', rfl, rfl, rfl, e5.1.symm, e5.2.1.symm, by rw [e5.2.2.1], rfl, e5.2.2.2.symm, hI2⟩
          · refine ⟨fun x => x = false, cnd_f (by decide) (by decide), ?_⟩
            rintro _ rfl
            exact cnd_f rfl (exit (.inr ⟨h46, hd⟩))
      · rintro _ _ _ _ _ _ _ _ ⟨st', rfl, rfl, rfl, rfl, rfl, rfl, rfl, rfl, hI'⟩
        refine ⟨⟨st', k + 1, rfl, rfl, wr1 (by omega), rfl, rfl, rfl, rfl, rfl, rfl, hI'⟩, ?_⟩
        dsimp only
        rw [wr1 (by omega)]; omega
    · obtain ⟨rfl, e2⟩ := hI.fin (by omega)
      exact ⟨rfl, rfl, rfl, rfl, rfl, rfl, rfl, rfl, k, rfl, hI, e2⟩
  · rintro _ _ _ _ _ _ _ _ _ ⟨rfl, rfl, rfl, rfl, rfl, rfl, rfl, rfl, k, rfl, hI, hrk⟩
    rw [hdig]
    have b1 := hI.nm; have b2 := hI.nd; have b3 := hI.d0; have b4 := hI.d1; have b5 := hI.k
    refine cnd_f rfl ⟨fun d => d = (if stF.dot then stF.dp else (stF.nd : Int)), cnd_not (fun h => by rw [h]; rfl) fun h => by rw [h]; rfl, ?_⟩
    rintro dp hdp
    have hdpb : -(k : Int) ≤ dp ∧ dp ≤ k := by rw [hdp]; split <;> omega
    refine ⟨fun a b => a = (stF.nm : Int) ∧ b = dp, cnd_f (by decide) ⟨rfl, rfl⟩, ?_⟩
    rintro _ b ⟨rfl, rfl⟩
    have fine : ∀ e : Int, -100000 ≤ e → e ≤ 100000 → eVal rest = e → IntKind.i64.wrap (b + e) = b + eVal rest := fun e h1 h2 h3 => by rw [h3, wr (by omega) (by omega)]
    refine ⟨fun i u d => i = (l.length : Int) ∧ u = false ∧ d = b + eVal rest ∧ -100000 ≤ eVal rest ∧ eVal rest ≤ 100000, ?_, ?_⟩
    · rw [hsz]
      refine cnd_dec (fun hlt => ?_) fun hge => cnd_f (by decide) ?_
      · have hk : k < l.length := by omega
        have hdr : l.drop k = l[k] :: l.drop (k + 1) := List.drop_eq_getElem_cons hk
        rcases hrest with h0 | ⟨c, sg, ds, hE⟩
        · rw [hrk, hdr] at h0; cases h0
        have heq := hE.eq
        rw [hrk, hdr] at heq
        obtain ⟨hc, htl⟩ := List.cons.inj heq
        have hckk : l[k]? = some c := by rw [List.getElem?_eq_getElem hk, hc]
        have hlen : (l.drop (k + 1)).length = l.length - (k + 1) := List.length_drop
        rw [htl, List.length_append] at hlen
        have hdsn : 0 < ds.length := List.length_pos_iff.2 hE.ne
        have hsgn : sg.length ≤ 1 := by rcases hE.sg with e | e | e <;> subst e <;> simp
        have gat : ∀ q, (sg ++ ds)[q]? = l[k + 1 + q]? := fun q => by rw [← htl, List.getElem?_drop]
        refine ⟨by omega, hlt, c, by rw [Int.toNat_natCast, at', hckk], ok94' ?_⟩
        refine ⟨fun i u d => i = (l.length : Int) ∧ u = false ∧ d = b + eVal rest ∧ -100000 ≤ eVal rest ∧ eVal rest ≤ 100000, cnd_eq (fun _ => ?_) fun h => absurd ((low101 c).2 hE.e) h, fun _ _ _ h => h⟩
        rw [wr1 (k := k) (by omega)]
        refine cnd_dec (fun h => absurd h (by omega)) fun _ => ?_
        obtain ⟨c1, hc1⟩ : ∃ c1, (sg ++ ds)[0]? = some c1 := ⟨_, List.getElem?_eq_getElem (by rw [List.length_append]; omega)⟩
        refine ⟨by omega, by omega, c1, by rw [Int.toNat_natCast, at', ← hc1, gat], ?_⟩
        -- the sign
        have hdg0 : ∀ d ∈ ds, 48 ≤ d.toNat ∧ d.toNat ≤ 57 := fun d hd => by
          have := hE.dg d hd
          simpa only [isD, Bool.and_eq_true, decide_eq_true_eq] using this
        have hV : decV ds ≤ 9999 := by
          have h1 := decV_lt hdg0 ds.length (Nat.le_refl _)
          rw [List.take_length] at h1
          have h2 := Nat.pow_le_pow_right (n := 10) (by decide) hE.le
          have h3 : (10 : Nat) ^ 4 = 10000 := rfl
          omega
        have hev : eVal rest = (decV ds : Int) * (if sg = [45] then -1 else 1) := by rw [hE.eq]; exact eVal_eq hE.sg hdg0
        have c1d : sg = [] → 48 ≤ c1.toNat := fun e => by
          subst e
          exact (hdg0 c1 (List.mem_of_getElem? (by simpa using hc1))).1
        have c1s : ∀ x : UInt8, sg = [x] → c1 = x := fun x e => by
          subst e; simp at hc1; exact hc1.symm
        refine ⟨fun i e => i = ((k + 1 + sg.length : Nat) : Int) ∧ e = (if sg = [45] then -1 else 1), cnd_eq (fun h => ?_) fun h => ⟨fun i e => i = ((k + 1 + sg.length : Nat) : Int) ∧ e = (if sg = [45] then -1 else 1), cnd_eq (fun h2 => ?_) fun h2 => ?_, fun _ _ h => h⟩, ?_⟩
        · have hc43 : c1 = 43 := eqB.1 h
          rcases hE.sg with e | e | e
          · have := c1d e; rw [hc43] at this; exact absurd this (by decide)
          · rw [wr1 (by omega), e]; exact ⟨rfl, by decide⟩
          · have := c1s _ e; rw [hc43] at this; exact absurd this (by decide)
        · have hc45 : c1 = 45 := eqB.1 h2
          rcases hE.sg with e | e | e
          · have := c1d e; rw [hc45] at this; exact absurd this (by decide)
          · have := c1s _ e; rw [hc45] at this; exact absurd this (by decide)
          · rw [wr1 (by omega), e]; exact ⟨rfl, by decide⟩
        · rcases hE.sg with e | e | e
          · rw [e]; exact ⟨rfl, by decide⟩
          · exact absurd (eqB.2 (c1s _ e)) h
          · exact absurd (eqB.2 (c1s _ e)) h2
        rintro _ _ ⟨rfl, rfl⟩
        have dat : ∀ q, q < ds.length → ∃ d, ds[q]? = some d ∧ l[k + 1 + sg.length + q]? = some d ∧ 48 ≤ d.toNat ∧ d.toNat ≤ 57 := by
          intro q hq
          refine ⟨ds[q], List.getElem?_eq_getElem hq, ?_, hdg0 _ (List.getElem_mem hq)⟩
          rw [show k + 1 + sg.length + q = k + 1 + (sg.length + q) by omega, ← gat, List.getElem?_append_right (by omega), show sg.length + q - sg.length = q by omega, List.getElem?_eq_getElem hq]
        refine ⟨False, cnd_dec (fun h => absurd h (by omega)) fun _ => ?_, fun h => h.elim⟩
        obtain ⟨d0, _, hd0, r1, r2⟩ := dat 0 hdsn
        rw [Nat.add_zero] at hd0
        refine ⟨by omega, by omega, d0, by rw [Int.toNat_natCast, at', hd0], cnd_dec (fun h => absurd h (by omega)) fun _ => ⟨by omega, by omega, d0, by rw [Int.toNat_natCast, at', hd0], cnd_dec (fun h => absurd h (by omega)) fun _ => ?_⟩⟩
        refine ⟨fun i u e => i = (l.length : Int) ∧ u = false ∧ e = (decV ds : Int), ⟨fun i u e => ∃ q : Nat, q ≤ ds.length ∧ i = ((k + 1 + sg.length + q : Nat) : Int) ∧ u = false ∧ e = (decV (ds.take q) : Int), fun i _ _ => l.length - i.toNat, ⟨0, Nat.zero_le _, rfl, rfl, rfl⟩, ?_⟩, ?_⟩
        · rintro _ _ _ ⟨q, hq, rfl, rfl, rfl⟩
          by_cases hqd : q < ds.length
          · obtain ⟨d, hd1, hd2, r3, r4⟩ := dat q hqd
            have hlt2 : ((k + 1 + sg.length + q : Nat) : Int) < (l.length : Int) := by omega
            have hat : s[Int.toNat ((k + 1 + sg.length + q : Nat) : Int)]? = some d := by rw [Int.toNat_natCast, at', hd2]
            refine ⟨True, ⟨fun _ => False, cnd_dec (fun _ => ⟨by omega, hlt2, d, hat, cnd_dec (fun _ => ⟨by omega, hlt2, d, hat, cnd_dec (fun _ => trivial) fun h => absurd (show ((d.toNat : Nat) : Int) ≤ 57 by omega) h⟩) fun h => absurd (show (48 : Int) ≤ ((d.toNat : Nat) : Int) by omega) h⟩) fun h => absurd hlt2 h, fun _ h => h.elim⟩, fun _ => ?_⟩
            have hvq := decV_lt hdg0 q (by omega)
            have hvb : decV (ds.take q) < 1000 := by
              have h2 := Nat.pow_le_pow_right (n := 10) (by decide) (show q ≤ 3 by have := hE.le; omega)
              have h3 : (10 : Nat) ^ 3 = 1000 := rfl
              omega
            refine ⟨fun u e => u = false ∧ e = (decV (ds.take (q + 1)) : Int), ⟨by omega, hlt2, d, hat, cnd_eq (fun h => absurd h (by omega)) fun _ => ⟨fun e => e = (decV (ds.take (q + 1)) : Int), cnd_dec (fun _ => ⟨by omega, hlt2, d, hat, ?_⟩) fun h => absurd (show ((decV (ds.take q) : Nat) : Int) < 10000 by omega) h, fun _ h => ⟨rfl, h⟩⟩⟩, ?_⟩
            · rw [decV_take hd1, wr (x := ((decV (ds.take q) : Nat) : Int) * 10) (by omega) (by omega), wr (x := ((d.toNat : Nat) : Int)) (by omega) (by omega), wr (x := ((decV (ds.take q) : Nat) : Int) * 10 + ((d.toNat : Nat) : Int)) (by omega) (by omega), wr (by omega) (by omega)]
              omega
            · rintro _ _ ⟨rfl, rfl⟩
              refine ⟨⟨q + 1, by omega, wr1 (by omega), rfl, rfl⟩, ?_⟩
              dsimp only
              rw [wr1 (by omega)]; omega
          · have hqe : q = ds.length := by omega
            have hge2 : ¬ ((k + 1 + sg.length + q : Nat) : Int) < (l.length : Int) := by omega
            refine ⟨False, ⟨fun _ => False, cnd_dec (fun h => absurd h hge2) fun _ => ⟨by omega, rfl, by rw [hqe, List.take_length]⟩, fun _ h => h.elim⟩, fun h => h.elim⟩
        · rintro _ _ _ ⟨rfl, rfl, rfl⟩
          have hb1 : -9999 ≤ (decV ds : Int) * (if sg = [45] then -1 else 1) ∧ (decV ds : Int) * (if sg = [45] then -1 else 1) ≤ 9999 := by split <;> omega
          rw [wr (x := (decV ds : Int) * (if sg = [45] then -1 else 1)) (by omega) (by omega)]
          exact ⟨rfl, rfl, fine _ (by omega) (by omega) hev, by omega, by omega⟩
      · have : k = l.length := by omega
        subst this
        have hr0 : rest = [] := by rw [hrk]; exact List.drop_length
        exact ⟨rfl, rfl, by rw [hr0]; show b = b + 0; omega, by rw [hr0]; decide, by rw [hr0]; decide⟩
    · rintro _ _ _ ⟨rfl, rfl, rfl, q1, q2⟩
      refine ⟨fun x => x = expV stF rest, cnd_ne (fun h => ?_) fun h => ?_, ?_⟩
      · unfold expV; rw [if_pos (by omega), ← hdp, wr (by omega) (by omega)]
      · unfold expV; rw [if_neg (by omega)]
      · rintro _ rfl
        exact ⟨True, cnd_f rfl trivial, fun _ => r⟩
end Go.Proofs.YtfjflbapojgbhaaGreatDoor.N
