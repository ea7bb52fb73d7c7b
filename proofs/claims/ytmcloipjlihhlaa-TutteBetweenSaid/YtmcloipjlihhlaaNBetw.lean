/- Each node comes between the least and the greatest of its neighbours. Conditions: none. -/
import Derived.Test.YtmcloipjlihhlaaTTutteB
import Derived.Test.YtmcloipjlihhlaaNQuot
namespace Go.Proofs.Ytmcloipjlihhlaa.N
open Go.X Go.Proofs.Ytmcloipjlihhlaa
set_option maxRecDepth 100000

def flZ (z : Int) : Nat := (FloatKind.f64).nearest z
def spotZ (z : Int) : Nat × Nat := (flZ z, negM (flZ z))
theorem whole_z {z : Int} (h1 : -128 ≤ z) (h2 : z ≤ 127) : Whole (flZ z) z := Whole.of (by omega) (by omega)
def sumZ (z : Nat → Int) : Nat → Int
  | 0 => 0
  | k + 1 => sumZ z k + z k
theorem sumZ_bound {z : Nat → Int} (h : ∀ k, -128 ≤ z k ∧ z k ≤ 127) : ∀ k : Nat, -(128 * (k : Int)) ≤ sumZ z k ∧ sumZ z k ≤ 128 * (k : Int)
  | 0 => by simp [sumZ]
  | k + 1 => by
    have := sumZ_bound h k
    have := h k
    rw [sumZ]; omega
theorem sumK_whole {f : Nat → Nat × Nat} {z : Nat → Int} (hz : ∀ k, -128 ≤ z k ∧ z k ≤ 127) {n : Nat} (hn : n ≤ 2000) (h : ∀ k, k < n → Whole (f k).1 (z k) ∧ Whole (f k).2 (-z k)) :
    ∀ k, k + 1 ≤ n → Whole (sumK f (k + 1)).1 (sumZ z (k + 1)) ∧ Whole (sumK f (k + 1)).2 (-sumZ z (k + 1))
  | 0, hk => by
    have := h 0 (by omega)
    simp only [sumK, sumZ, Int.zero_add]
    exact this
  | k + 1, hk => by
    obtain ⟨a, b⟩ := sumK_whole hz hn h k (by omega)
    have c := h (k + 1) (by omega)
    have sb := sumZ_bound hz (k + 2)
    have e : sumZ z (k + 1 + 1) = sumZ z (k + 1) + z (k + 1) := rfl
    rw [e] at sb ⊢
    simp only [sumK]
    refine ⟨a.add c.1 (by omega) (by omega), ?_⟩
    rw [Int.neg_add]
    exact b.add c.2 (by omega) (by omega)
theorem mulU_lt {a b : Int} : a * (U : Int) ≤ b * (U : Int) ↔ a ≤ b := ⟨mul_cancel, mul_mono⟩
theorem min_U (a b : Int) : min (a * (U : Int)) (b * (U : Int)) = min a b * (U : Int) := by
  rcases Int.le_total a b with h | h
  · rw [Int.min_eq_left h, Int.min_eq_left (mul_mono h)]
  · rw [Int.min_eq_right h, Int.min_eq_right (mul_mono h)]
theorem max_U (a b : Int) : max (a * (U : Int)) (b * (U : Int)) = max a b * (U : Int) := by
  rcases Int.le_total a b with h | h
  · rw [Int.max_eq_right h, Int.max_eq_right (mul_mono h)]
  · rw [Int.max_eq_left h, Int.max_eq_left (mul_mono h)]
theorem whole_lo : Whole 4641240890982006784 200 := by
  have : flZ 200 = 4641240890982006784 := by decide +kernel
  rw [← this]; exact Whole.of (by omega) (by omega)
theorem whole_hi : Whole 13864612927836782592 (-200) := by
  have : flZ (-200) = 13864612927836782592 := by decide +kernel
  rw [← this]; exact Whole.of (by omega) (by omega)
theorem whole_0 : Whole 0 0 := by
  have : flZ 0 = 0 := by decide +kernel
  rw [← this]; exact Whole.of (by omega) (by omega)
theorem fmm_whole {a b : Nat} {x y : Int} (mx : Bool) (ha : Whole a x) (hb : Whole b y) : ∃ r, fmm .f64 mx a b = some r ∧ Whole r (if mx then max x y else min x y) := by
  obtain ⟨r, h1, h2, h3, h4⟩ := fmm_key mx ha.nan hb.nan
  refine ⟨r, h1, ?_, ?_⟩
  · rcases h3 with e | e
    · rw [e]; exact ha.num
    · rw [e]; exact hb.num
  · rw [h4, ha.k, hb.k, min_U, max_U]
    cases mx <;> rfl
theorem okBetwL {g : Int} {es : Es} {xs : List Int} {R : Bool → Prop} (hr : ∀ x ∈ xs, -128 ≤ x ∧ x ≤ 127) (h : R true) : Ok8 g es xs R := by
  apply ok8
  unfold T8
  refine okBegun (cnd_not (fun q => absurd q (by decide)) fun _ => ⟨True, okMayR (cnd_not (fun _ => trivial) fun q => ?_), fun _ => h⟩)
  refine cnd_dec (fun _ => trivial) fun g1 => cnd_dec (fun _ => trivial) fun l1 => cnd_ne (fun _ => h) fun hx => ?_
  have m := mayN q
  have g0 := m.g0
  refine ⟨fun a v => ∃ k : Nat, v = k ∧ k ≤ xs.length ∧ a = (xs.take k).map spotZ, fun _ v => (g - v).toNat, ⟨0, rfl, Nat.zero_le _, rfl⟩, ?_⟩
  rintro _ _ ⟨k, rfl, hk, rfl⟩
  refine cnd_dec (fun hlt => ⟨by omega, by omega, fun x hxx => ?_⟩) fun hlt => ?_
  · rw [Int.toNat_natCast] at hxx
    rw [wr (by omega) (by omega)]
    refine ⟨by simp; omega, ⟨k + 1, by simp, by omega, ?_⟩, by dsimp only; omega⟩
    rw [List.take_add_one, hxx, List.map_append]
    rfl
  · have hkx : k = xs.length := by omega
    subst hkx
    rw [List.take_length]
    have al : (xs.map spotZ).length = xs.length := by simp
    refine ⟨g0, by omega, okRounds ?_⟩
    have er : roundsR g es (xs.map spotZ) (List.replicate g.toNat false) 1 = (stepM es (List.replicate g.toNat false) (xs.map spotZ), 0) := by
      unfold roundsR
      have c1 : (!mayB g es || (((xs.map spotZ).length : Int) != g) || (((List.replicate g.toNat false).length : Int) != g) || decide ((1 : Int) < 0)) = false := by
        rw [q]
        have a1 : (((xs.map spotZ).length : Int) != g) = false := by simp; omega
        have a2 : (((List.replicate g.toNat false).length : Int) != g) = false := by simp; omega
        rw [a1, a2]; rfl
      have c2 : (decide ((1 : Int) > 4096) || decide ((1 : Int) * (g + 2 * es.length) > 16777216)) = false := by
        have a1 : decide ((1 : Int) * (g + 2 * es.length) > 16777216) = false := by simp; omega
        rw [a1]; rfl
      rw [c1, c2]
      rfl
    rw [er]
    dsimp only
    refine cnd_ne (fun z => absurd rfl z) fun _ => okOutsR m ?_
    refine ⟨fun v => ∃ k : Nat, v = k, fun v => (g - v).toNat, ⟨0, rfl⟩, ?_⟩
    rintro _ ⟨v, rfl⟩
    refine cnd_dec (fun hlt2 => ?_) fun _ => h
    have hv : v < g.toNat := by omega
    refine ⟨True, ⟨by omega, by rw [outsM_len]; omega, fun hs hhs => ?_⟩, fun _ => ?_⟩
    · rw [Int.toNat_natCast, outsM_get hv] at hhs
      obtain rfl := Option.some.inj hhs
      have hol := outL_len es (2 * es.length) v
      have hin := outL_in es v
      have hst := stepM_get (es := es) (held := List.replicate g.toNat false) (now := xs.map spotZ) (v := v) (by simp; omega)
      have hheld : (List.replicate g.toNat false).getD v false = false := by simp [List.getD_eq_getElem?_getD, List.getElem?_replicate, hv]
      have hat : ∀ w : Nat, w < xs.length → (xs.map spotZ)[w]? = some (spotZ (xs.getD w 0)) := fun w hw => by
        rw [List.getElem?_map, List.getD_eq_getElem?_getD, List.getElem?_eq_getElem hw]; rfl
      have hbz : ∀ w : Nat, -128 ≤ xs.getD w 0 ∧ xs.getD w 0 ≤ 127 := fun w => by
        by_cases hw : w < xs.length
        · rw [List.getD_eq_getElem?_getD, List.getElem?_eq_getElem hw]
          exact hr _ (List.getElem_mem hw)
        · rw [List.getD_eq_getElem?_getD, List.getElem?_eq_none (by omega)]; decide
      have sl : (stepM es (List.replicate g.toNat false) (xs.map spotZ)).length = xs.length := by rw [stepM_len, al]
      refine cnd_eq (fun z => ⟨by omega, by omega, fun a ha => ⟨by omega, by omega, fun b hb => ?_⟩⟩) fun z => ?_
      · rw [Int.toNat_natCast, hst] at ha
        rw [Int.toNat_natCast] at hb
        have hemp : (outL es (2 * es.length) v).isEmpty = true := by
          rw [List.isEmpty_iff]; exact List.eq_nil_of_length_eq_zero (by omega)
        have ea : a = b := by
          rw [← Option.some.inj ha]
          unfold stepAt
          rw [hheld, hemp]
          simp [List.getD_eq_getElem?_getD, hb]
        subst ea
        rw [hat v (by omega)] at hb
        obtain rfl := Option.some.inj hb
        have w := whole_z (hbz v).1 (hbz v).2
        have e1 : (F64.order (spotZ (xs.getD v 0)).1 (spotZ (xs.getD v 0)).1 == some .eq) = true := by rw [order_eq]; exact congrArg not w.nan
        have e2 : (F64.order (spotZ (xs.getD v 0)).2 (spotZ (xs.getD v 0)).2 == some .eq) = true := by rw [order_eq]; exact congrArg not w.neg.nan
        have e3 : (!((FloatKind.f64.format.order (spotZ (xs.getD v 0)).1 (spotZ (xs.getD v 0)).1 == some .eq) && (FloatKind.f64.format.order (spotZ (xs.getD v 0)).2 (spotZ (xs.getD v 0)).2 == some .eq))) = false := by
          have e1' : (FloatKind.f64.format.order (spotZ (xs.getD v 0)).1 (spotZ (xs.getD v 0)).1 == some .eq) = true := e1
          have e2' : (FloatKind.f64.format.order (spotZ (xs.getD v 0)).2 (spotZ (xs.getD v 0)).2 == some .eq) = true := e2
          rw [e1', e2']; rfl
        rw [e3]
        exact cnd_b (fun y => by cases y) fun _ => trivial
      · -- the neighbours
        obtain ⟨n, hn⟩ : ∃ n, n = (outL es (2 * es.length) v).length := ⟨_, rfl⟩
        obtain ⟨zf, hzf⟩ : ∃ zf : Nat → Int, zf = fun k => xs.getD (toH es ((outL es (2 * es.length) v).getD k 0).toNat).toNat 0 := ⟨_, rfl⟩
        have hz : ∀ k, -128 ≤ zf k ∧ zf k ≤ 127 := fun k => by rw [hzf]; exact hbz _
        have hk : ∀ k, k < n → ∃ hh : Nat, (outL es (2 * es.length) v).getD k 0 = hh ∧ hh < 2 * es.length ∧ (outL es (2 * es.length) v)[k]? = some (hh : Int) := fun k hk => by
          have e : (outL es (2 * es.length) v)[k]? = some ((outL es (2 * es.length) v)[k]'(by omega)) := List.getElem?_eq_getElem (by omega)
          obtain ⟨hh, e1, e2⟩ := hin _ (List.mem_of_getElem? e)
          rw [e1] at e
          exact ⟨hh, by rw [List.getD_eq_getElem?_getD, e]; rfl, e2, e⟩
        have hsp : ∀ k, k < n → spotH es (xs.map spotZ) ((outL es (2 * es.length) v).getD k 0) = spotZ (zf k) := fun k hkn => by
          obtain ⟨hh, e1, e2, _⟩ := hk k hkn
          have ht := toH_in m e2
          rw [hzf]
          dsimp only
          rw [e1, Int.toNat_natCast]
          unfold spotH
          rw [Int.toNat_natCast, List.getD_eq_getElem?_getD, hat _ (by omega)]; rfl
        have sK := sumK_whole (f := fun k => spotH es (xs.map spotZ) ((outL es (2 * es.length) v).getD k 0)) hz (n := n) (by omega) (fun k hkn => by
          rw [hsp k hkn]
          have w := whole_z (hz k).1 (hz k).2
          exact ⟨w, w.neg⟩)
        have sb := sumZ_bound hz
        refine ⟨fun lo hi sum k => ∃ (j : Nat) (Lo Hi : Int), k = j ∧ j ≤ n ∧ Whole lo Lo ∧ Whole hi Hi ∧ Whole sum (sumZ zf j) ∧ Lo * j ≤ sumZ zf j ∧ sumZ zf j ≤ Hi * j, fun _ _ _ k => ((n : Int) - k).toNat, ⟨0, 200, -200, rfl, Nat.zero_le _, whole_lo, whole_hi, whole_0, by simp [sumZ], by simp [sumZ]⟩, ?_⟩
        rintro lo hi sum _ ⟨j, Lo, Hi, rfl, hj, wl, wh, ws, bl, bh⟩
        rw [← hn]
        refine cnd_dec (fun hlt3 => ⟨by omega, by rw [outsM_len]; omega, fun hs hhs => ?_⟩) fun hlt3 => ?_
        · rw [Int.toNat_natCast, outsM_get hv] at hhs
          obtain rfl := Option.some.inj hhs
          refine ⟨by omega, by omega, fun x hx => ?_⟩
          rw [Int.toNat_natCast] at hx
          obtain ⟨hh, e1, e2, e3⟩ := hk j (by omega)
          rw [e3] at hx
          obtain rfl := Option.some.inj hx
          have ht := toH_in m e2
          refine okTo e2 (by omega) ⟨ht.1, by omega, fun a ha => ?_⟩
          rw [hat _ (by omega)] at ha
          obtain rfl := Option.some.inj ha
          have ez : xs.getD (toH es hh).toNat 0 = zf j := by rw [hzf]; dsimp only; rw [e1, Int.toNat_natCast]
          rw [ez]
          have wz := whole_z (hz j).1 (hz j).2
          obtain ⟨r1, f1, w1⟩ := fmm_whole false wl wz
          obtain ⟨r2, f2, w2⟩ := fmm_whole true wh wz
          have sbj := sb (j + 1)
          have es1 : sumZ zf (j + 1) = sumZ zf j + zf j := rfl
          rw [es1] at sbj
          have wa := ws.add wz (by omega) (by omega)
          refine ⟨r1, f1, r2, f2, fun r hr4 => ?_⟩
          have er4 : r = addM sum (flZ (zf j)) := feq_of (fres hr4) wa.nan
          subst er4
          rw [wr (by omega) (by omega)]
          refine ⟨⟨j + 1, _, _, by simp, by omega, w1, w2, wa, ?_, ?_⟩, by dsimp only; omega⟩
          · simp only [Bool.false_eq_true, if_false]
            rw [es1, Int.natCast_add, Int.mul_add, Int.natCast_one, Int.mul_one]
            have a1 : min Lo (zf j) * (j : Int) ≤ Lo * j := Int.mul_le_mul_of_nonneg_right (Int.min_le_left _ _) (by omega)
            have a2 := Int.min_le_right Lo (zf j)
            omega
          · simp only [if_true]
            rw [es1, Int.natCast_add, Int.mul_add, Int.natCast_one, Int.mul_one]
            have a1 : Hi * (j : Int) ≤ max Hi (zf j) * j := Int.mul_le_mul_of_nonneg_right (Int.le_max_left _ _) (by omega)
            have a2 := Int.le_max_right Hi (zf j)
            omega
        · have hjn : j = n := by omega
          subst hjn
          have hpos : 0 < j := by omega
          obtain ⟨j', hj'⟩ : ∃ j', j = j' + 1 := ⟨j - 1, by omega⟩
          have sKn := sK j' (by omega)
          rw [← hj'] at sKn
          have wn : Whole (lenF j) (j : Int) := Whole.of (by omega) (by omega)
          have sbj := sb j
          obtain ⟨d1, d2, d3, d4, d5⟩ := div_whole sKn.1 wn (by omega) (by omega) (by omega) (by omega)
          have dN := d5 _ sKn.2
          have dS := d4 _ ws
          refine ⟨False, ⟨by omega, by omega, fun a ha => ?_⟩, False.elim⟩
          rw [Int.toNat_natCast, hst] at ha
          have hne : (outL es (2 * es.length) v).isEmpty = false := by
            cases hq : outL es (2 * es.length) v with
            | nil => rw [hq] at hn; simp at hn; omega
            | cons => rfl
          have ea : a = midstM es (xs.map spotZ) (outL es (2 * es.length) v) := by
            rw [← Option.some.inj ha]
            unfold stepAt
            rw [hheld, hne]; rfl
          have ea1 : a.1 = cleanM (divM (sumK (fun k => spotH es (xs.map spotZ) ((outL es (2 * es.length) v).getD k 0)) j).1 (lenF j)) := by rw [ea]; unfold midstM; rw [← hn]
          have ea2 : a.2 = cleanM (divM (sumK (fun k => spotH es (xs.map spotZ) ((outL es (2 * es.length) v).getD k 0)) j).2 (lenF j)) := by rw [ea]; unfold midstM; rw [← hn]
          have k1 : key a.1 = key (divM (sumK (fun k => spotH es (xs.map spotZ) ((outL es (2 * es.length) v).getD k 0)) j).1 (lenF j)) := by rw [ea1]; exact key_clean d1
          have k2 : key a.2 = -key (divM (sumK (fun k => spotH es (xs.map spotZ) ((outL es (2 * es.length) v).getD k 0)) j).1 (lenF j)) := by rw [ea2, key_clean dN.1]; exact dN.2
          have n1 : isNaN a.1 = false := by rw [ea1, clean_nan]; exact d1
          have n2 : isNaN a.2 = false := by rw [ea2, clean_nan]; exact dN.1
          have c1 : (FloatKind.f64.format.order a.1 lo == some .lt) = false := by
            have := order_lt n1 wl.nan
            refine this.trans (decide_eq_false ?_)
            rw [k1, wl.k]
            have := d3 Lo bl
            omega
          have c2 : (FloatKind.f64.format.order a.1 hi == some .gt) = false := by
            have := order_gt n1 wh.nan
            refine this.trans (decide_eq_false ?_)
            rw [k1, wh.k]
            have := d2 Hi bh
            omega
          rw [c1, c2]
          refine cnd_b (fun y => by cases y) fun _ => cnd_b (fun y => by cases y) fun _ => ⟨by omega, by rw [outsM_len]; omega, fun hs hhs => ?_⟩
          rw [Int.toNat_natCast, outsM_get hv] at hhs
          obtain rfl := Option.some.inj hhs
          intro r5 hr5
          rw [← hn] at hr5
          have er5 : r5 = divM sum (lenF j) := feq_of (fres hr5) dS.1
          have c3 : (FloatKind.f64.format.order a.1 r5 != some .eq) = false := by
            have h5 : isNaN r5 = false := by rw [er5]; exact dS.1
            have := order_same n1 h5
            have e : (FloatKind.f64.format.order a.1 r5 == some .eq) = true := by
              refine this.trans (decide_eq_true ?_)
              rw [k1, er5, dS.2]
            unfold bne
            rw [e]; rfl
          have c4 : (FloatKind.f64.format.order a.2 (Op.negFloat .f64 a.1) != some .eq) = false := by
            have hng : isNaN (negM a.1) = false := by rw [nan_neg]; exact n1
            have := order_same n2 hng
            have e : (FloatKind.f64.format.order a.2 (Op.negFloat .f64 a.1) == some .eq) = true := by
              refine Eq.trans this (decide_eq_true ?_)
              rw [k2, key_neg, k1]
            unfold bne
            rw [e]; rfl
          rw [c3, c4]
          exact cnd_b (fun y => by cases y) fun _ => cnd_b (fun y => by cases y) fun _ => trivial
    · rw [wr (by omega) (by omega)]
      exact ⟨⟨v + 1, by simp⟩, by dsimp only; omega⟩
end Go.Proofs.Ytmcloipjlihhlaa.N
namespace Go.Proofs.Ytmcloipjlihhlaa
open Go.X in
theorem TutteBetween_ok {g : Int} {es : List (Int × Int)} {xs : List Int} {h : Heap} {a0 a1 : Option Addr} {l0 l1 c0 c1 : Nat} (hr : ∀ x ∈ xs, -128 ≤ x ∧ x ≤ 127) (hp : Hp h [Ck.vw eP a0 l0 c0 es, Ck.vw (eK .i8) a1 l1 c1 xs]) :
    CallsH Try.prog 8 #[.agg #[.int .i64 g, .slice a0 l0 c0], .slice a1 l1 c1] h fun v h' => Fr [] h h' ∧ v = .bool true :=
  (N.okBetwL (R := fun b => b = true) hr rfl h _ _ _ _ _ _ hp).mono fun _ _ ⟨_, Y, e, q⟩ => ⟨Y.fr, q ▸ e⟩
end Go.Proofs.Ytmcloipjlihhlaa
