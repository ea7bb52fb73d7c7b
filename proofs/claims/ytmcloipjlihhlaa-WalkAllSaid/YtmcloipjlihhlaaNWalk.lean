/- Package walk: breadth and depth first, components. Conditions: none. -/
import Derived.Test.YtmcloipjlihhlaaTWalk
import Derived.Test.YtmcloipjlihhlaaNParts
import Derived.Test.YtmcloipjlihhlaaNDfs
namespace Go.Proofs.Ytmcloipjlihhlaa.N
open Go.X Go.Proofs.Ytmcloipjlihhlaa
set_option maxRecDepth 100000

theorem xor_one_nat (n : Nat) : n ^^^ 1 = mate n := by
  have h1 : (n ^^^ 1) / 2 = n / 2 := by rw [Nat.xor_div_two]; simp
  have h2 : (n ^^^ 1) % 2 = if n % 2 = 0 then 1 else 0 := by
    have := Nat.xor_mod_two_pow (a := n) (b := 1) (n := 1)
    rw [Nat.pow_one] at this
    rw [this]
    rcases Nat.mod_two_eq_zero_or_one n with q | q
    · rw [q]; rfl
    · rw [q]; rfl
  unfold mate
  split at h2
  · rename_i q; rw [if_pos q]; omega
  · rename_i q; rw [if_neg q]; omega
theorem xor_one {n : Nat} (h : n ≤ 1000000000) : bits .xor .i64 (n : Int) 1 = ((mate n : Nat) : Int) := by
  have e1 : (BitVec.ofInt IntKind.i64.bits (n : Int)).toNat = n := by
    have hk : IntKind.i64.bits = 64 := rfl
    rw [BitVec.toNat_ofInt, hk]; omega
  have e2 : (BitVec.ofInt IntKind.i64.bits (1 : Int)).toNat = 1 := by decide
  unfold bits
  simp only [BitVec.toNat_xor]
  rw [e1, e2, xor_one_nat, wr]
  · omega
  · unfold mate; split <;> omega
theorem getD_of {l : List Int} {i : Nat} {x : Int} (h : l[i]? = some x) : l.getD i 0 = x := by simp [List.getD_eq_getElem?_getD, h]
def faultyE (g : Int) (es : Es) (s : Int) : Int := if mayB g es = false then 1 else if s < 0 ∨ g ≤ s then 2 else 0
theorem okFaulty {g s : Int} {es : Es} {R : Int → Prop} (h : R (faultyE g es s)) : Ok174 g es s R := by
  apply ok174
  unfold T174
  refine okMay (cnd_not (fun q => ?_) fun q => cnd_dec (fun q2 => ?_) fun q2 => cnd_dec (fun q3 => ?_) fun q3 => ?_)
  · simpa [faultyE, q] using h
  · have : faultyE g es s = 2 := by unfold faultyE; rw [if_neg (by simp [q]), if_pos (by omega)]
    rwa [this] at h
  · have : faultyE g es s = 2 := by unfold faultyE; rw [if_neg (by simp [q]), if_pos (by omega)]
    rwa [this] at h
  · have : faultyE g es s = 0 := by unfold faultyE; rw [if_neg (by simp [q]), if_neg (by omega)]
    rwa [this] at h
theorem faulty_zero {g s : Int} {es : Es} (h : faultyE g es s = 0) : MayN g es ∧ 0 ≤ s ∧ s < g := by
  unfold faultyE at h
  split at h
  · omega
  · rename_i q
    split at h
    · omega
    · exact ⟨mayN (by simpa using q), by omega, by omega⟩
def outsA (g : Int) (es : Es) : List (List Int) := outsM g.toNat es (2 * es.length)
theorem outsA_len (g : Int) (es : Es) : (outsA g es).length = g.toNat := outsM_len _ _ _
theorem outsA_get {g : Int} {es : Es} {v : Int} {l : List Int} (h1 : v < g) (h0 : 0 ≤ v) (h : (outsA g es)[v.toNat]? = some l) : l = outV es v := by
  unfold outsA at h
  rw [outsM_get (by omega)] at h
  exact (Option.some.inj h).symm
theorem okOfW {g : Int} {es : Es} {R : Int → List (List Int) → Prop} (m : MayN g es) (h : R g (outsA g es)) : Ok175 g es R := by
  apply ok175
  unfold T175
  have m1 := m.g0
  have m2 := m.g1
  have m3 := m.m
  refine ⟨by omega, by omega, fun i l => ∃ k : Nat, i = k ∧ k ≤ es.length ∧ l = outsM g.toNat es (2 * k), fun i _ => ((es.length : Int) - i).toNat, ⟨0, rfl, by omega, (outsM_zero _ _).symm⟩, ?_⟩
  rintro _ _ ⟨k, rfl, hk, rfl⟩
  refine cnd_dec (fun hlt => ⟨by omega, hlt, fun x hx => ?_⟩) fun hlt => ?_
  · have hx : es[k]? = some x := by simpa using hx
    refine ⟨fun i l => ∃ j : Nat, i = j ∧ j ≤ 2 ∧ l = outsM g.toNat es (2 * k + j), fun i _ => (2 - i).toNat, ⟨0, rfl, by omega, rfl⟩, ?_⟩
    rintro _ _ ⟨j, rfl, hj, rfl⟩
    refine cnd_dec (fun hlt2 => ?_) fun hlt2 => ?_
    · have hf := fromH_in m (h := 2 * k + j) (by omega)
      have e : nth2 (x.1, x.2) (j : Int) = fromH es (2 * k + j) := by
        unfold fromH
        rw [show (2 * k + j) / 2 = k by omega, show (2 * k + j) % 2 = j by omega]
        simp [List.getD, hx]
      refine ⟨by omega, by omega, _, lit2 (by omega) hlt2, ?_⟩
      rw [e]
      refine ⟨by omega, by rw [outsM_len]; omega, fun y hy => ?_⟩
      rw [outsM_get (by omega)] at hy
      obtain rfl := Option.some.inj hy
      have := outL_len es (2 * k + j) (fromH es (2 * k + j)).toNat
      have w : IntKind.i64.wrap (IntKind.i64.wrap ((2 : Int) * (k : Int)) + (j : Int)) = ((2 * k + j : Nat) : Int) := by
        rw [wr (x := (2 : Int) * _) (by omega) (by omega), wr (by omega) (by omega)]; omega
      rw [w, outsM_succ (v := (fromH es (2 * k + j)).toNat) (by omega), wr (by omega) (by omega)]
      exact ⟨by omega, by omega, by rw [outsM_len]; omega, ⟨j + 1, by simp, by omega, rfl⟩, by dsimp only; omega⟩
    · have : j = 2 := by omega
      subst this
      rw [wr (by omega) (by omega)]
      exact ⟨⟨k + 1, by simp, by omega, by rw [show 2 * (k + 1) = 2 * k + 2 by omega]⟩, by dsimp only; omega⟩
  · have : k = es.length := by omega
    subst this
    exact h
theorem set_take_rep {n k : Nat} {x : Int} (h : k < n) : (List.replicate k x ++ List.replicate (n - k) 0).set k x = List.replicate (k + 1) x ++ List.replicate (n - (k + 1)) 0 := by
  rw [List.set_append_right _ _ (by simp), List.length_replicate, Nat.sub_self, show n - k = (n - (k + 1)) + 1 by omega, List.replicate_succ, List.set_cons_zero, List.replicate_succ' , List.append_assoc]
  rfl
theorem okFilled {n x : Int} {R : List Int → Prop} (h0 : 0 ≤ n) (h1 : n ≤ 1000000) (h : R (List.replicate n.toNat x)) : Ok178 n x R := by
  apply ok178
  unfold T178
  refine ⟨h0, by omega, fun i l => ∃ k : Nat, i = k ∧ k ≤ n.toNat ∧ l = List.replicate k x ++ List.replicate (n.toNat - k) 0, fun i _ => (n - i).toNat, ⟨0, rfl, by omega, by simp⟩, ?_⟩
  rintro _ _ ⟨k, rfl, hk, rfl⟩
  refine cnd_dec (fun hlt => ?_) fun hlt => ?_
  · rw [Int.toNat_natCast, set_take_rep (by omega), wr (by omega) (by omega)]
    exact ⟨by omega, hlt, ⟨k + 1, by simp, by omega, rfl⟩, by dsimp only; omega⟩
  · have : k = n.toNat := by omega
    subst this
    simpa using h
theorem okTour {g s : Int} {R : List Int → List Int → List Int → List Int → Prop} (h0 : 0 ≤ s) (h1 : s < g) (h2 : g ≤ 1024) (h : R (bStart g s).ord (bStart g s).by' (bStart g s).far []) : Ok177 g s R := by
  apply ok177
  unfold T177
  exact okFilled (by omega) (by omega) (okFilled (by omega) (by omega) ⟨h0, by simp; omega, h⟩)
theorem okToW {g : Int} {es : Es} {outs : List (List Int)} {h : Nat} {R : Int → Prop} (hh : h < 2 * es.length) (hl : es.length ≤ 1000000) (k : R (toH es h)) : Ok180 g es outs h R := by
  apply ok180
  unfold T180
  rw [half_div h (by omega), half_mod, wr (by omega) (by omega)]
  refine ⟨by decide, by decide, by omega, by omega, by omega, by omega, fun x hx => ?_⟩
  rw [Int.toNat_natCast] at hx
  rw [half_at hh] at hx
  obtain rfl := Option.some.inj hx
  exact k
theorem okFind {g : Int} {es : Es} {outs : List (List Int)} {o b f l : List Int} {h : Nat} {x : Int} {R : List Int → List Int → List Int → List Int → Prop} (m : MayN g es) (hh : h < 2 * es.length) (ho : o.length ≤ 100000) (hb : b.length = g.toNat) (hf : f.length = g.toNat)
    (k : R (o ++ [toH es h]) (b.set (toH es h).toNat h) (f.set (toH es h).toNat x) l) : Ok181 g es outs o b f l h x R := by
  apply ok181
  unfold T181
  have := toH_in m hh
  have := m.m
  exact okToW hh (by omega) ⟨by omega, by omega, by omega, by omega, by omega, k⟩
theorem okBreadthL {g s : Int} {es : Es} {R : List Int → List Int → List Int → List Int → Prop} (m : MayN g es) (h0 : 0 ≤ s) (h1 : s < g) (h : R (bfs g es s).ord (bfs g es s).by' (bfs g es s).far []) : Ok176 g es (outsA g es) s R := by
  apply ok176
  unfold T176
  have m2 := m.g1
  have m3 := m.m
  refine okTour h0 h1 m2 ⟨fun i a b c d => ∃ k : Nat, i = k ∧ k ≤ (bK g es s k).ord.length ∧ a = (bK g es s k).ord ∧ b = (bK g es s k).by' ∧ c = (bK g es s k).far ∧ d = [], fun i _ _ _ _ => (g - i).toNat, ⟨0, rfl, Nat.zero_le _, rfl, rfl, rfl, rfl⟩, ?_⟩
  rintro _ _ _ _ _ ⟨k, rfl, hk, rfl, rfl, rfl, rfl⟩
  have i := bK_BI m h0 h1 k
  have il := i.len
  refine cnd_dec (fun hlt => ⟨by omega, hlt, fun v hv => ?_⟩) fun hlt => ?_
  · rw [Int.toNat_natCast] at hv
    have hvm : v ∈ (bK g es s k).ord := List.mem_of_getElem? hv
    have hvr := i.rng v hvm
    refine ⟨hvr.1, by rw [outsA_len]; omega, fun l hl => ?_⟩
    obtain rfl := outsA_get hvr.2 hvr.1 hl
    refine ⟨fun x a b c d => ∃ j : Nat, x = j ∧ j ≤ (outV es v).length ∧ a = (bJ es v (bK g es s k) j).ord ∧ b = (bJ es v (bK g es s k) j).by' ∧ c = (bJ es v (bK g es s k) j).far ∧ d = [], fun x _ _ _ _ => ((outV es v).length - x).toNat, ⟨0, rfl, Nat.zero_le _, rfl, rfl, rfl, rfl⟩, ?_⟩
    have hol : (outV es v).length ≤ 2 * es.length := outL_len _ _ _
    rintro _ _ _ _ _ ⟨j, rfl, hj, rfl, rfl, rfl, rfl⟩
    obtain ⟨ij, hvj⟩ := i.stepJ m hvm j hj
    refine cnd_dec (fun hlt2 => ⟨by omega, hlt2, fun x hx => ?_⟩) fun hlt2 => ?_
    · rw [Int.toNat_natCast] at hx
      obtain ⟨n, rfl, hn, hf⟩ := outV_mem hvr.1 (List.mem_of_getElem? hx)
      have hw := toH_in m hn
      have es1 := bJ_succ (t := bK g es s k) hx
      generalize hB : bJ es v (bK g es s k) j = B at *
      have iln := ij.len
      refine okToW hn (by omega) ⟨hw.1, by rw [ij.lf]; omega, fun y hy => ?_⟩
      have hy := getD_of hy
      refine ⟨fun a b c d => a = (bH es v B n).ord ∧ b = (bH es v B n).by' ∧ c = (bH es v B n).far ∧ d = [], cnd_dec (fun q => ⟨hvr.1, by rw [ij.lf]; omega, fun z hz => ?_⟩) (fun q => ?_), ?_⟩
      · have hz := getD_of hz
        have hbv := ij.bnd v hvr.1 hvr.2
        rw [wr (by omega) (by omega)]
        refine okFind m hn (by omega) ij.lb ij.lf ?_
        unfold bH
        rw [Int.toNat_natCast, if_pos (by rw [hy]; exact q), hz]
        exact ⟨rfl, rfl, rfl, rfl⟩
      · unfold bH
        rw [Int.toNat_natCast, if_neg (by rw [hy]; exact q)]
        exact ⟨rfl, rfl, rfl, rfl⟩
      · rintro _ _ _ _ ⟨rfl, rfl, rfl, rfl⟩
        rw [wr (by omega) (by omega)]
        exact ⟨⟨j + 1, by simp, by omega, by rw [es1], by rw [es1], by rw [es1], rfl⟩, by dsimp only; omega⟩
    · have : j = (outV es v).length := by omega
      subst this
      rw [wr (by omega) (by omega)]
      have e := bK_succ hv
      rw [bJ_all, ← e]
      have hl : k + 1 ≤ (bK g es s (k + 1)).ord.length := by
        have := bJ_le es v (bK g es s k) (outV es v).length
        rw [bJ_all, ← e] at this
        omega
      exact ⟨⟨k + 1, by simp, hl, rfl, rfl, rfl, rfl⟩, by dsimp only; omega⟩
  · have hk2 : k = (bK g es s k).ord.length := by omega
    have e := bK_done m h0 h1 hk2
    rw [e]; exact h
def breadthR (g : Int) (es : Es) (s : Int) : BT := if faultyE g es s = 0 then bfs g es s else ⟨[], [], []⟩
theorem okBreadth {g s : Int} {es : Es} {R : List Int → List Int → List Int → List Int → Int → Prop} (h : R (breadthR g es s).ord (breadthR g es s).by' (breadthR g es s).far [] (faultyE g es s)) : Ok81 g es s R := by
  apply ok81
  unfold T81
  refine okFaulty (cnd_ne (fun q => ?_) fun q => ?_)
  · have e : breadthR g es s = ⟨[], [], []⟩ := by unfold breadthR; rw [if_neg q]
    rw [e] at h; exact h
  · obtain ⟨m, h0, h1⟩ := faulty_zero q
    have e : breadthR g es s = bfs g es s := by unfold breadthR; rw [if_pos q]
    rw [e, q] at h
    exact okOfW m (okBreadthL m h0 h1 h)
theorem okParts {g : Int} {es : Es} {R : List Int → Int → Int → Prop} (bad : mayB g es = false → R [] 0 1) (good : mayB g es = true → R (parts g es).1 (parts g es).2 0) : Ok83 g es R := by
  apply ok83
  unfold T83
  refine okMay (cnd_not (fun q => bad q) fun q => ?_)
  have m := mayN q
  have m0 := m.g0
  have m1 := m.g1
  have good := good q
  refine okOfW m (okFilled m0 (by omega) ⟨fun n x c => ∃ k : Nat, x = k ∧ k ≤ g.toNat ∧ n = (pK g es k).2 ∧ c = (pK g es k).1, fun _ x _ => (g - x).toNat, ⟨0, rfl, Nat.zero_le _, rfl, rfl⟩, ?_⟩)
  rintro _ _ _ ⟨k, rfl, hk, rfl, rfl⟩
  have p := pK_PI es k hk
  have hc := p.cnt
  rw [List.length_replicate]
  refine cnd_dec (fun hlt => ?_) fun hlt => ?_
  · refine ⟨fun n c => n = (pK g es (k + 1)).2 ∧ c = (pK g es (k + 1)).1, ⟨by omega, hlt, fun y hy => ?_⟩, ?_⟩
    · rw [Int.toNat_natCast] at hy
      have hy := getD_of hy
      have e1 : pK g es (k + 1) = pStep g es k (pK g es k) := rfl
      rw [e1]
      refine cnd_dec (fun q2 => ?_) fun q2 => ?_
      · rw [pStep_old (by omega)]; exact ⟨rfl, rfl⟩
      · have e2 := pStep_bfs m (c := pK g es k) (k := k) (by omega) (by omega) p.len
        have i := bfs_BI m (s := k) (by omega) (by omega)
        have il := i.len
        refine okBreadthL m (by omega) (by omega) ⟨fun x c => ∃ j : Nat, x = j ∧ j ≤ (bfs g es k).ord.length ∧ c = fillAll (pK g es k).2 (pK g es k).1 ((bfs g es k).ord.take j), fun x _ => ((bfs g es k).ord.length - x).toNat, ⟨0, rfl, Nat.zero_le _, rfl⟩, ?_⟩
        rintro _ _ ⟨j, rfl, hj, rfl⟩
        refine cnd_dec (fun q3 => ⟨by omega, q3, fun w hw => ?_⟩) fun q3 => ?_
        · rw [Int.toNat_natCast] at hw
          have hwr := i.rng w (List.mem_of_getElem? hw)
          rw [wr (by omega) (by omega)]
          exact ⟨hwr.1, by omega, ⟨j + 1, by simp, by omega, (fillAll_succ hw).symm⟩, by dsimp only; omega⟩
        · have : j = (bfs g es k).ord.length := by omega
          subst this
          rw [wr (by omega) (by omega), e2, List.take_length]
          exact ⟨by simp, rfl⟩
    · rintro _ _ ⟨rfl, rfl⟩
      rw [wr (by omega) (by omega)]
      exact ⟨⟨k + 1, by simp, by omega, rfl, rfl⟩, by dsimp only; omega⟩
  · have : k = g.toNat := by omega
    subst this
    exact good
theorem min_if (a b : Int) : (if a < b then a else b) = min b a := by
  by_cases h : a < b
  · rw [if_pos h]; omega
  · rw [if_neg h]; omega
theorem okLower {g v : Int} {es : Es} {o b f low place : List Int} {R : List Int → List Int → List Int → List Int → Prop} (m : MayN g es) (h0 : 0 ≤ v) (h1 : v < g) (hb : b.length = g.toNat) (hl : low.length = g.toNat) (hp : place.length = g.toNat)
    (hby : ∀ x ∈ b, x < 2 * es.length) (h : R o b f (low.set v.toNat (lowV es b place low v))) : Ok179 g es (outsA g es) o b f low place v R := by
  apply ok179
  unfold T179
  have m3 := m.m
  refine ⟨h0, by omega, fun p hp2 => ⟨h0, by rw [outsA_len]; omega, fun l hl2 => ?_⟩⟩
  have hp2 := getD_of hp2
  obtain rfl := outsA_get h1 h0 hl2
  have hol : (outV es v).length ≤ 2 * es.length := outL_len _ _ _
  refine ⟨fun a x => ∃ j : Nat, x = j ∧ j ≤ (outV es v).length ∧ a = ((outV es v).take j).foldl (lowStep es b place low v) p, fun _ x => ((outV es v).length - x).toNat, ⟨0, rfl, Nat.zero_le _, rfl⟩, ?_⟩
  rintro _ _ ⟨j, rfl, hj, rfl⟩
  refine cnd_dec (fun hlt => ?_) fun hlt => ?_
  · refine ⟨fun a => a = ((outV es v).take (j + 1)).foldl (lowStep es b place low v) p, ⟨by omega, hlt, fun x hx => ?_⟩, ?_⟩
    · rw [Int.toNat_natCast] at hx
      obtain ⟨n, rfl, hn, hf⟩ := outV_mem h0 (List.mem_of_getElem? hx)
      have hw := toH_in m hn
      rw [List.take_add_one, hx, List.foldl_append]
      simp only [Option.toList, List.foldl_cons, List.foldl_nil]
      generalize ((outV es v).take j).foldl (lowStep es b place low v) p = a
      refine okToW hn (by omega) ⟨h0, by omega, fun y hy => ?_⟩
      have hym := hby y (List.mem_of_getElem? hy)
      have hy := getD_of hy
      have tail : ¬ (0 ≤ b.getD v.toNat 0 ∧ (n : Int) = mateI (b.getD v.toNat 0)) → ∀ {Jw : Int → Prop}, Jw (lowStep es b place low v a n) →
          (0 ≤ toH es n ∧ toH es n < ((b.length : Nat) : Int) ∧ ∀ x_5 : Int, b[(Int.toNat (toH es n))]? = some x_5 → ∃ Jv2 : Int → Prop,
          ( cnd (x_5 == (n : Int))
             (0 ≤ toH es n ∧ toH es n < ((low.length : Nat) : Int) ∧ ∀ x_6 : Int, low[(Int.toNat (toH es n))]? = some x_6 → Jv2 (if x_6 < a then x_6 else a))
             (0 ≤ toH es n ∧ toH es n < ((place.length : Nat) : Int) ∧ ∀ place_2 : Int, place[(Int.toNat (toH es n))]? = some place_2 → Jv2 (if place_2 < a then place_2 else a))) ∧
          ∀ low2 : Int, Jv2 low2 → Jw low2) := fun q Jw hJ => by
        refine ⟨hw.1, by omega, fun z hz => ?_⟩
        have hz := getD_of hz
        refine ⟨fun c => c = lowStep es b place low v a n, cnd_eq (fun q2 => ⟨hw.1, by omega, fun u hu => ?_⟩) (fun q2 => ⟨hw.1, by omega, fun u hu => ?_⟩), fun c hc => hc ▸ hJ⟩
        · have hu := getD_of hu
          unfold lowStep
          rw [if_neg q, Int.toNat_natCast, if_pos (by rw [hz]; exact q2), hu, min_if]
        · have hu := getD_of hu
          unfold lowStep
          rw [if_neg q, Int.toNat_natCast, if_neg (by rw [hz]; exact q2), hu, min_if]
      refine cnd_dec (fun q => ?_) fun q => ?_
      · obtain ⟨y', rfl⟩ : ∃ y' : Nat, y = y' := ⟨y.toNat, by omega⟩
        have em : bits .xor .i64 (y' : Int) 1 = mateI (b.getD v.toNat 0) := by
          rw [xor_one (by omega), hy]; unfold mateI; rw [Int.toNat_natCast]
        rw [em]
        refine ⟨fun c => c = lowStep es b place low v a n, cnd_eq (fun q2 => ?_) (fun q2 => ?_), fun c hc => hc⟩
        · unfold lowStep
          rw [if_pos ⟨by rw [hy]; exact q, q2⟩]
        · exact tail (fun z => q2 z.2) rfl
      · obtain ⟨c1, c2, c3⟩ := tail (fun z => q (by rw [← hy]; exact z.1)) (Jw := fun c => c = lowStep es b place low v a n) rfl
        exact ⟨c1, c2, c3⟩
    · rintro _ rfl
      rw [wr (by omega) (by omega)]
      exact ⟨⟨j + 1, by simp, by omega, rfl⟩, by dsimp only; omega⟩
  · have : j = (outV es v).length := by omega
    subst this
    rw [List.take_length]
    refine ⟨h0, by omega, ?_⟩
    unfold lowV at h
    rw [hp2] at h
    exact h
theorem BI.by_lt {g : Int} {es : Es} {s : Int} {t : BT} (i : BI g es s t) : ∀ x ∈ t.by', x < 2 * es.length := fun x hx => by
  obtain ⟨k, hk, e⟩ := List.getElem_of_mem hx
  have hk2 : k < g.toNat := by rw [← i.lb]; exact hk
  have hx2 : t.by'.getD (k : Int).toNat 0 = x := by rw [Int.toNat_natCast, List.getD_eq_getElem?_getD, List.getElem?_eq_getElem hk, e]; rfl
  by_cases hm : (k : Int) ∈ t.ord
  · by_cases hs : (k : Int) = s
    · have := i.bs
      rw [← hs, hx2] at this; omega
    · obtain ⟨h, h1, h2, _⟩ := i.tree _ hm hs
      omega
  · have := i.no k (by omega) (by omega) hm
    omega
theorem okDepth {g s : Int} {es : Es} {R : List Int → List Int → List Int → List Int → Int → Prop} (bad : faultyE g es s ≠ 0 → R [] [] [] [] (faultyE g es s)) (good : faultyE g es s = 0 → R (dfs g es s).t.ord (dfs g es s).t.by' (dfs g es s).t.far (dfs g es s).low 0) : Ok82 g es s R := by
  apply ok82
  unfold T82
  refine okFaulty (cnd_ne bad fun q => ?_)
  obtain ⟨m, h0, h1⟩ := faulty_zero q
  have good := good q
  have m0 := m.g0
  have m1 := m.g1
  have m3 := m.m
  refine okOfW m (okTour h0 h1 m1 (okFilled m0 (by omega) (okFilled m0 (by omega) ⟨h0, by simp; omega, m0, by omega, fun path place next o b f low => ∃ k : Nat, dK g es s k = ⟨⟨o, b, f⟩, place, low, next, path⟩, fun path place next o b f low => meas g es ⟨⟨o, b, f⟩, place, low, next, path⟩, ⟨0, rfl⟩, ?_⟩)))
  rintro path place next o b f low ⟨k, hk⟩
  have i := dK_DV m h0 h1 k
  rw [hk] at i
  rw [List.length_replicate]
  refine cnd_dec (fun hlt => ?_) fun hlt => ?_
  · have hne : path ≠ [] := fun e => by rw [e] at hlt; simp at hlt
    have st := i.step m hne
    refine ⟨fun path place next o b f low => dStep es (dK g es s k) = ⟨⟨o, b, f⟩, place, low, next, path⟩, ?_, ?_⟩
    · rw [hk]
      have hlen : path.length ≤ 20000000 := by have := dK_path m h0 h1 k; rw [hk] at this; exact this
      have iol := i.bi.len
      have ill := i.ll
      have ilp := i.lp
      have ilf := i.bi.lf
      obtain ⟨p, v, rfl⟩ : ∃ p v, path = p ++ [v] := ⟨path.dropLast, path.getLast hne, (List.dropLast_concat_getLast hne).symm⟩
      have hpl : IntKind.i64.wrap ((((p ++ [v]).length : Nat) : Int) - 1) = (p.length : Int) := by
        rw [wr (by omega) (by omega), List.length_append, List.length_singleton]; omega
      rw [hpl]
      have hvo : v ∈ o := i.pm v (by simp)
      have hvr := i.bi.rng v hvo
      refine ⟨by omega, by simp; omega, fun w hw => ?_⟩
      rw [Int.toNat_natCast, List.getElem?_append_right (Nat.le_refl _), Nat.sub_self] at hw
      have hw : w = v := by simpa using hw.symm
      subst hw
      refine ⟨hvr.1, by omega, fun x hx => ⟨hvr.1, by rw [outsA_len]; omega, fun l hl => ?_⟩⟩
      obtain rfl := outsA_get hvr.2 hvr.1 hl
      have hx := getD_of hx
      refine cnd_eq (fun q2 => ?_) fun q2 => ?_
      · refine okLower m hvr.1 hvr.2 i.bi.lb i.ll i.lp i.bi.by_lt ⟨by omega, by simp; omega, ?_⟩
        rw [Int.toNat_natCast, List.take_left]
        exact dStep_pop rfl (by rw [← q2]; exact hx)
      · have hn : next.getD w.toNat 0 ≠ (outV es w).length := fun e => q2 (by rw [← hx]; exact e)
        obtain ⟨h, nh⟩ := i.next rfl hn
        have nx : 0 ≤ next.getD w.toNat 0 ∧ next.getD w.toNat 0 ≤ ((outV es w).length : Int) := i.nx w hvr.1 hvr.2
        have hol : (outV es w).length ≤ 2 * es.length := outL_len _ _ _
        refine ⟨by omega, by omega, fun y hy => ?_⟩
        have hy2 : y = h := by
          have := nh.at'
          rw [show (⟨⟨o, b, f⟩, place, low, next, p ++ [w]⟩ : DS).next.getD w.toNat 0 = x from hx, hy] at this
          exact Option.some.inj this
        subst hy2
        refine ⟨hvr.1, by omega, fun z hz => ?_⟩
        have hz := getD_of hz
        have hzx : z = x := by rw [← hz]; exact hx
        subst hzx
        have hw := toH_in m nh.hh
        refine okToW nh.hh (by omega) ⟨hw.1, by show toH es h < ((f.length : Nat) : Int); have : f.length = g.toNat := ilf; omega, fun u hu => ?_⟩
        have hu := getD_of hu
        rw [wr (x := z + 1) (by omega) (by omega)]
        refine ⟨fun path' place' o' b' f' low' => dStep es ⟨⟨o, b, f⟩, place, low, next, p ++ [w]⟩ = ⟨⟨o', b', f'⟩, place', low', next.set w.toNat (z + 1), path'⟩, cnd_dec (fun q3 => ⟨hw.1, by omega, hvr.1, by show w < ((f.length : Nat) : Int); have : f.length = g.toNat := ilf; omega, fun e he => ?_⟩) (fun q3 => ?_), fun _ _ _ _ _ _ e => e⟩
        · have he := getD_of he
          have hb := i.bi.bnd w hvr.1 hvr.2
          have hb2 : -1 ≤ f.getD w.toNat 0 ∧ f.getD w.toNat 0 < (o.length : Int) := hb
          have hol2 : o.length ≤ g.toNat := iol
          rw [wr (by omega) (by omega)]
          refine okFind m nh.hh (by omega) i.bi.lb i.bi.lf ⟨by simp at hlen ⊢; omega, ?_⟩
          rw [dStep_new rfl hn nh (by show f.getD _ 0 < 0; rw [hu]; exact q3)]
          unfold dNew
          dsimp only
          rw [Int.toNat_natCast, he, hx]
        · rw [dStep_old rfl hn nh (by show ¬ f.getD _ 0 < 0; rw [hu]; exact q3)]
          unfold dOld
          dsimp only
          rw [hx]
    · rintro path2 place2 next2 o2 b2 f2 low2 e
      have e2 : dK g es s (k + 1) = ⟨⟨o2, b2, f2⟩, place2, low2, next2, path2⟩ := e
      refine ⟨⟨k + 1, e2⟩, ?_⟩
      rw [hk] at e
      have st2 := st.2
      rw [e] at st2; exact st2
  · have hp : path = [] := by
      cases path with
      | nil => rfl
      | cons a l => simp at hlt
    subst hp
    have e := dK_done m h0 h1 (k := k) (by rw [hk])
    rw [← e, hk] at good
    exact good
end Go.Proofs.Ytmcloipjlihhlaa.N
