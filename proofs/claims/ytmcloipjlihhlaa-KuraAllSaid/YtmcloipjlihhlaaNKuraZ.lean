/- Package kura: all is told as the document tells it, twice. Conditions: none. -/
import Derived.Test.YtmcloipjlihhlaaNKuraB
import Derived.Test.YtmcloipjlihhlaaNKeepAll
import Derived.Test.YtmcloipjlihhlaaNKuraW
import Derived.Test.YtmcloipjlihhlaaNMaker
import Derived.Test.YtmcloipjlihhlaaTKuraB
set_option linter.unusedSimpArgs false
set_option linter.unusedVariables false
namespace Go.Proofs.Ytmcloipjlihhlaa.N
open Go.X Go.Proofs.Ytmcloipjlihhlaa
set_option maxRecDepth 100000

section
variable {g : Int} {es : Es} {sel : List Int}
theorem good_uniq (m : MayN g es) (c : ChosenK (es.length : Int) sel) {k k' : Int} {b b' : List Int} {p p' : List (List Int)} (y : Good g es sel k b p) (y' : Good g es sel k' b' p') : k = k' ∧ b = b' ∧ p = p' := by
  rcases good_ref m c y with ⟨rfl, K, _, _, rfl⟩ | ⟨rfl, B, K, _, _, _, _, rfl, rfl⟩ <;> rcases good_ref m c y' with ⟨rfl, K', _, _, rfl⟩ | ⟨rfl, B', K', _, _, _, _, rfl, rfl⟩
  · obtain ⟨_, rfl⟩ := K.z.uniq K'.z; exact ⟨rfl, rfl, rfl⟩
  · exact absurd (K.z.uniq K'.z).1 (by decide)
  · exact absurd (K.z.uniq K'.z).1 (by decide)
  · obtain ⟨_, rfl⟩ := K.z.uniq K'.z; exact ⟨rfl, rfl, rfl⟩
theorem Good.ne {k : Int} {b : List Int} {p : List (List Int)} (y : Good g es sel k b p) : k ≠ 0 := by
  rcases y with ⟨rfl, _⟩ | ⟨rfl, _⟩ <;> decide
theorem path_ends {d : Int} {b : List Int} (K : KOK g d es sel b) (I : InjB g es sel b) {u v : Int} (h : cntF g es sel b u v ≠ 0) : endsP es (pathOf g es sel b u v) = (u, v) := by
  obtain ⟨x, hx, h1, h2⟩ := cnt_pos.1 (Nat.pos_of_ne_zero h)
  rw [pathOf_eq I hx h1 h2, K.ends hx, h1, h2]
theorem Good.ends (m : MayN g es) (c : ChosenK (es.length : Int) sel) {k : Int} {b : List Int} {p : List (List Int)} (y : Good g es sel k b p) : b.Nodup ∧ ∀ x ∈ p, (endsP es x).1 ∈ b ∧ (endsP es x).2 ∈ b := by
  rcases good_ref m c y with ⟨rfl, K, I, hu, rfl⟩ | ⟨rfl, B, K, I, hu, f3, fw, rfl, rfl⟩
  · refine ⟨K.nd, fun x hx => ?_⟩
    obtain ⟨q, hq, rfl⟩ := List.mem_map.1 hx
    obtain ⟨q1, q2, q3⟩ := preP_in K.lt hq
    have := (ref_five K I hu).2 _ q1 _ q2 (by omega)
    rw [path_ends K I (by omega)]; exact ⟨q1, q2⟩
  · refine ⟨?_, fun x hx => ?_⟩
    · refine List.nodup_append.2 ⟨K.nd.filter _, K.nd.filter _, fun a ha b hb e => ?_⟩
      subst e
      have h1 := (List.mem_filter.1 ha).2
      have h2 := (List.mem_filter.1 hb).2
      rw [h1] at h2; cases h2
    · obtain ⟨q, hq, rfl⟩ := List.mem_map.1 hx
      obtain ⟨u, hu', hq⟩ := List.mem_flatMap.1 hq
      obtain ⟨v, hv', rfl⟩ := List.mem_map.1 hq
      rw [path_ends K I (fw u hu' v hv')]
      exact ⟨List.mem_append_left _ hu', List.mem_append_right _ hv'⟩
theorem idxL_of {v : Int} : ∀ {l : List Int} {t n : Nat}, l.Nodup → l[t]? = some v → idxL v l n = ((n + t : Nat) : Int)
  | x :: l, 0, n, _, h => by
    obtain rfl : x = v := by simpa using h
    rw [idxL, if_pos rfl]; rfl
  | x :: l, t + 1, n, nd, h => by
    obtain ⟨h1, h2⟩ := List.nodup_cons.1 nd
    have h' : l[t]? = some v := by simpa using h
    have hne : v ≠ x := fun e => h1 (e ▸ List.mem_of_getElem? h')
    rw [idxL, if_neg hne, idxL_of h2 h']
    congr 1; omega
  | [], t, n, _, h => by simp at h
theorem okShrinkR {R : Int → Es → Int → Prop} (m : MayN g es) (c : ChosenK (es.length : Int) sel) (hs : sel.length ≤ 1000000) (z : (¬ ∃ k b p, Good g es sel k b p) → R 0 [] 14) (s : ∀ k b p, Good g es sel k b p → R (b.length : Nat) (p.map (shr es b)) 0) : Ok62 g es sel R := by
  have mm := m.m
  apply ok62
  unfold T62
  refine okAllR m c hs (fun n => cnd_eq (fun _ => z n) fun q => absurd rfl q) fun k b p y => cnd_eq (fun q => absurd q y.ne) fun _ => ?_
  obtain ⟨po, bl, pl⟩ := y.paths_ok m c
  obtain ⟨nd, en⟩ := y.ends m c
  refine ⟨fun i n l => ∃ a : Nat, i = a ∧ a ≤ p.length ∧ n = (b.length : Nat) ∧ l = (p.take a).map (shr es b), fun i _ _ => ((p.length : Int) - i).toNat, ⟨0, rfl, Nat.zero_le _, rfl, rfl⟩, ?_⟩
  rintro _ _ _ ⟨a, rfl, ha, rfl, rfl⟩
  refine cnd_dec (fun hlt => ⟨by omega, hlt, fun x hx => ?_⟩) fun hlt => ?_
  · rw [Int.toNat_natCast] at hx
    have px := po x (List.mem_of_getElem? hx)
    have ex := en x (List.mem_of_getElem? hx)
    have x0 : 0 < x.length := List.length_pos_iff.2 px.1.1
    refine ⟨by decide, by omega, fun h1 hh1 => ?_⟩
    rw [wr (x := (x.length : Int) - 1) (by omega) (by omega)]
    refine ⟨by omega, by omega, fun h2 hh2 => ?_⟩
    rw [show (0 : Int).toNat = 0 from rfl] at hh1
    rw [show ((x.length : Int) - 1).toNat = x.length - 1 by omega] at hh2
    obtain ⟨n1, rfl, l1⟩ := px.1.2 h1 (List.mem_of_getElem? hh1)
    obtain ⟨n2, rfl, l2⟩ := px.1.2 h2 (List.mem_of_getElem? hh2)
    have e1 : (endsP es x).1 = fromH es n1 := by
      unfold endsP; rw [getD_of' hh1, Int.toNat_natCast]
    have e2 : (endsP es x).2 = toH es n2 := by
      unfold endsP; rw [getD_of' hh2, Int.toNat_natCast]
    obtain ⟨t1, ht1⟩ := List.mem_iff_getElem?.1 ex.1
    obtain ⟨t2, ht2⟩ := List.mem_iff_getElem?.1 ex.2
    have lt1 := (List.getElem?_eq_some_iff.1 ht1).1
    have lt2 := (List.getElem?_eq_some_iff.1 ht2).1
    refine okFrom l1 (by omega) (okTo l2 (by omega) ?_)
    refine ⟨fun k x0 x1 => ∃ j : Nat, k = j ∧ j ≤ b.length ∧ (t1 < j → x0 = t1) ∧ (t2 < j → x1 = t2), fun k _ _ => ((b.length : Int) - k).toNat, ⟨0, rfl, Nat.zero_le _, fun q => by omega, fun q => by omega⟩, ?_⟩
    rintro _ x0' x1' ⟨j, rfl, hj, H1, H2⟩
    refine cnd_dec (fun hlt2 => ⟨by omega, hlt2, fun w hw => ?_⟩) fun hlt2 => ?_
    · rw [Int.toNat_natCast] at hw
      have i1 : w = fromH es n1 ↔ j = t1 := ⟨fun q => nodup_inj nd hw (by rw [ht1, e1, q]), fun q => by subst q; rw [← e1]; exact Option.some.inj (hw.symm.trans ht1)⟩
      have i2 : w = toH es n2 ↔ j = t2 := ⟨fun q => nodup_inj nd hw (by rw [ht2, e2, q]), fun q => by subst q; rw [← e2]; exact Option.some.inj (hw.symm.trans ht2)⟩
      refine ⟨fun x0 x1 => (t1 < j + 1 → x0 = t1) ∧ (t2 < j → x1 = t2), cnd_eq (fun q => ⟨fun _ => by have := i1.1 q; omega, H2⟩) fun q => ⟨fun w => H1 (by have := fun e => q (i1.2 e); omega), H2⟩, ?_⟩
      rintro y0 y1 ⟨A1, A2⟩
      refine ⟨fun x0 x1 => (t1 < j + 1 → x0 = t1) ∧ (t2 < j + 1 → x1 = t2), cnd_eq (fun q => ⟨A1, fun _ => by have := i2.1 q; omega⟩) fun q => ⟨A1, fun w => A2 (by have := fun e => q (i2.2 e); omega)⟩, ?_⟩
      rintro z0 z1 ⟨B1, B2⟩
      rw [wr (by omega) (by omega)]
      exact ⟨⟨j + 1, by simp, by omega, B1, B2⟩, by dsimp only; omega⟩
    · have c1 := H1 (by omega)
      have c2 := H2 (by omega)
      subst c1
      subst c2
      rw [wr (by omega) (by omega)]
      refine ⟨by simp; omega, ⟨a + 1, by simp, by omega, rfl, ?_⟩, by dsimp only; omega⟩
      rw [List.take_add_one, hx, List.map_append]
      congr 1
      show _ = [shr es b x]
      unfold shr
      rw [idxL_of nd ht1, idxL_of nd ht2, Nat.zero_add, Nat.zero_add]
  · rw [List.take_of_length_le (show p.length ≤ a by omega)]
    exact s k b p y
theorem okFoundE {R : Bool → Int → List (List Int) → List Int → List (List Int) → Int → Int → Prop} (hs : sel.length ≤ 1000000) (b0 : mayB g es = false → R true 0 [] [] [] 0 1) (bad : mayB g es = true → ∀ e, FirstBad sel es.length e → R true 0 [] [] [] 0 e)
    (z : mayB g es = true → ChosenK es.length sel → (¬ ∃ k b p, Good g es sel k b p) → R true 0 [] [] [] 0 14) (s : mayB g es = true → ChosenK es.length sel → ∀ k b p, Good g es sel k b p → R false g (outsF g es sel) b p k 0) : Ok158 g es sel R := by
  apply ok158
  unfold T158
  refine okFaultyE hs (fun q => cnd_ne (fun _ => b0 q) fun w => absurd w (by decide)) (fun q e f => cnd_ne (fun _ => bad q e f) fun w => absurd w f.ne) fun q c => cnd_ne (fun w => absurd rfl w) fun _ => ?_
  exact okOf (mayN q) c hs (fun n _ _ => cnd_eq (fun _ => z q c n) fun w => absurd rfl w) fun k b p y => cnd_eq (fun w => absurd w y.ne) fun _ => s q c k b p y
structure AnsK (g : Int) (es : Es) (sel : List Int) (e k : Int) (b : List Int) (p : List (List Int)) (n : Int) (l : Es) (none : Int) : Prop where
  kind : ∀ {R : Int → Int → Prop}, R k e → Ok64 g es sel R
  br : ∀ {R : List Int → Int → Prop}, R b none → Ok65 g es sel R
  pa : ∀ {R : List (List Int) → Int → Prop}, R p none → Ok66 g es sel R
  sh : ∀ {R : Int → Es → Int → Prop}, R n l none → Ok67 g es sel R
  bl : b.length ≤ 1000000
  pl : p.length ≤ 1000000
  pr : ∀ x ∈ p, x.length ≤ 1000000
  ll : l.length ≤ 1000000
/-- What is told of the four answers, from the error and the form. -/
theorem AnsK.of {e k : Int} {b : List Int} {p : List (List Int)} {n : Int} {l : Es} {none : Int} (hs : sel.length ≤ 1000000)
    (bl : b.length ≤ 1000000) (pl : p.length ≤ 1000000) (pr : ∀ x ∈ p, x.length ≤ 1000000) (ll : l.length ≤ 1000000)
    (b0 : mayB g es = false → (e, k, b, p, n, l, none) = (1, 0, [], [], 0, [], 1)) (bad : mayB g es = true → ∀ e', FirstBad sel es.length e' → (e, k, b, p, n, l, none) = (e', 0, [], [], 0, [], e'))
    (z : mayB g es = true → ChosenK es.length sel → (¬ ∃ k b p, Good g es sel k b p) → (e, k, b, p, n, l, none) = (0, 0, [], [], 0, [], 14))
    (s : mayB g es = true → ChosenK es.length sel → ∀ k' b' p', Good g es sel k' b' p' → (e, k, b, p, n, l, none) = ((0 : Int), k', b', p', ((b'.length : Nat) : Int), p'.map (shr es b'), (0 : Int))) : AnsK g es sel e k b p n l none := by
  refine ⟨fun {R} h => ?_, fun {R} h => ?_, fun {R} h => ?_, fun {R} h => ?_, bl, pl, pr, ll⟩
  · apply ok64
    unfold T64
    refine okFaultyE hs (fun q => cnd_ne (fun _ => ?_) fun w => absurd w (by decide)) (fun q e' f => cnd_ne (fun _ => ?_) fun w => absurd w f.ne) fun q c => cnd_ne (fun w => absurd rfl w) fun _ => ?_
    · have := b0 q; simp only [Prod.mk.injEq] at this; obtain ⟨rfl, rfl, _⟩ := this; exact h
    · have := bad q e' f; simp only [Prod.mk.injEq] at this; obtain ⟨rfl, rfl, _⟩ := this; exact h
    · refine okOf (mayN q) c hs (fun n _ _ => ?_) fun k b p y => ?_
      · have := z q c n; simp only [Prod.mk.injEq] at this; obtain ⟨rfl, rfl, _⟩ := this; exact h
      · have := s q c _ _ _ y; simp only [Prod.mk.injEq] at this; obtain ⟨rfl, rfl, _⟩ := this; exact h
  · apply ok65
    unfold T65
    refine okFoundE hs (fun q => cnd_b (fun _ => cnd_ne (fun _ => ?_) fun w => absurd w (by decide)) fun w => by cases w) (fun q e' f => cnd_b (fun _ => cnd_ne (fun _ => ?_) fun w => absurd w f.ne) fun w => by cases w) (fun q c n => cnd_b (fun _ => cnd_ne (fun _ => ?_) fun w => absurd w (by decide)) fun w => by cases w) fun q c k' b' p' y => cnd_b (fun w => by cases w) fun _ => cnd_ne (fun w => absurd rfl w) fun _ => ?_
    · have := b0 q; simp only [Prod.mk.injEq] at this; obtain ⟨_, _, rfl, _, _, _, rfl⟩ := this; exact h
    · have := bad q e' f; simp only [Prod.mk.injEq] at this; obtain ⟨_, _, rfl, _, _, _, rfl⟩ := this; exact h
    · have := z q c n; simp only [Prod.mk.injEq] at this; obtain ⟨_, _, rfl, _, _, _, rfl⟩ := this; exact h
    · have := s q c _ _ _ y; simp only [Prod.mk.injEq] at this; obtain ⟨_, _, rfl, _, _, _, rfl⟩ := this; exact h
  · apply ok66
    unfold T66
    refine okFoundE hs (fun q => cnd_b (fun _ => cnd_ne (fun _ => ?_) fun w => absurd w (by decide)) fun w => by cases w) (fun q e' f => cnd_b (fun _ => cnd_ne (fun _ => ?_) fun w => absurd w f.ne) fun w => by cases w) (fun q c n => cnd_b (fun _ => cnd_ne (fun _ => ?_) fun w => absurd w (by decide)) fun w => by cases w) fun q c k' b' p' y => cnd_b (fun w => by cases w) fun _ => cnd_ne (fun w => absurd rfl w) fun _ => ?_
    · have := b0 q; simp only [Prod.mk.injEq] at this; obtain ⟨_, _, _, rfl, _, _, rfl⟩ := this; exact h
    · have := bad q e' f; simp only [Prod.mk.injEq] at this; obtain ⟨_, _, _, rfl, _, _, rfl⟩ := this; exact h
    · have := z q c n; simp only [Prod.mk.injEq] at this; obtain ⟨_, _, _, rfl, _, _, rfl⟩ := this; exact h
    · have := s q c _ _ _ y; simp only [Prod.mk.injEq] at this; obtain ⟨_, _, _, rfl, _, _, rfl⟩ := this; exact h
  · by_cases gd : mayB g es = true ∧ ChosenK es.length sel ∧ ∃ k b p, Good g es sel k b p
    · obtain ⟨q, c, k', b', p', y⟩ := gd
      refine okShrink hs q c y.ne y fun k2 b2 p2 y2 => ?_
      have := s q c _ _ _ y2; simp only [Prod.mk.injEq] at this; obtain ⟨_, _, _, _, rfl, rfl, rfl⟩ := this; exact h
    · apply ok67
      unfold T67
      refine okFoundE hs (fun q => cnd_b (fun _ => cnd_ne (fun _ => ?_) fun w => absurd w (by decide)) fun w => by cases w) (fun q e' f => cnd_b (fun _ => cnd_ne (fun _ => ?_) fun w => absurd w f.ne) fun w => by cases w) (fun q c n => cnd_b (fun _ => cnd_ne (fun _ => ?_) fun w => absurd w (by decide)) fun w => by cases w) fun q c k' b' p' y => absurd ⟨q, c, k', b', p', y⟩ gd
      · have := b0 q; simp only [Prod.mk.injEq] at this; obtain ⟨_, _, _, _, rfl, rfl, rfl⟩ := this; exact h
      · have := bad q e' f; simp only [Prod.mk.injEq] at this; obtain ⟨_, _, _, _, rfl, rfl, rfl⟩ := this; exact h
      · have := z q c n; simp only [Prod.mk.injEq] at this; obtain ⟨_, _, _, _, rfl, rfl, rfl⟩ := this; exact h
end
theorem okIntsK {a : List Int} {R : Bool → Prop} (hl : a.length ≤ 1000000) (h : R true) : Ok68 a a R := by
  apply ok68
  unfold T68
  refine cnd_ne (fun q => absurd rfl q) fun _ => ⟨fun i => ∃ k : Nat, i = k ∧ k ≤ a.length, fun i => ((a.length : Int) - i).toNat, ⟨0, rfl, Nat.zero_le _⟩, ?_⟩
  rintro _ ⟨i, rfl, hi⟩
  refine cnd_dec (fun hlt => ⟨by omega, hlt, fun x hx => ⟨by omega, hlt, fun y hy => ?_⟩⟩) fun _ => h
  rw [hx] at hy
  obtain rfl := Option.some.inj hy
  rw [wr (by omega) (by omega)]
  exact cnd_ne (fun q => absurd rfl q) fun _ => ⟨⟨i + 1, by simp, by omega⟩, by dsimp only; omega⟩
/-- The two turns. -/
def turnsK (g : Int) (edgesV : Es) (edgesV2 : List Int) (r3 kind : Int) (nodes : List Int) (paths : List (List Int)) (c0 : Int) (c1 : Es) (nonev : Int) (R : Bool → Prop) : Prop :=
          Ok63 g edgesV (fun r4 r_2 =>
          (0 + edgesV2.length) < 1000000000000 ∧ ((0 + edgesV2.length) + 1) < 1000000000000 ∧ 0 ≤ ((edgesV2.length : Nat) : Int) ∧ ((edgesV2.length : Nat) : Int) ≤ ((((0 + edgesV2.length) + 1) : Nat) : Int) ∧ ∃ (Iv : Int → List (List Int) → Int → Prop) (m : Int → List (List Int) → Int → Nat), Iv 0 ([]) 0 ∧
          ∀ turn : Int, ∀ y : List (List Int), ∀ y_2 : Int, Iv turn y y_2 →
          cnd (decide (turn < (2 : Int)))
            (Ok64 r4 r_2 (((([] : List Int) ++ edgesV2) ++ [(-5)]).take (Int.toNat ((edgesV2.length : Nat) : Int))) (fun ra3 rb2 =>
            Ok65 r4 r_2 (((([] : List Int) ++ edgesV2) ++ [(-5)]).take (Int.toNat ((edgesV2.length : Nat) : Int))) (fun ra_3 rb3 =>
            Ok66 r4 r_2 (((([] : List Int) ++ edgesV2) ++ [(-5)]).take (Int.toNat ((edgesV2.length : Nat) : Int))) (fun ra_4 rb4 =>
            Ok67 r4 r_2 (((([] : List Int) ++ edgesV2) ++ [(-5)]).take (Int.toNat ((edgesV2.length : Nat) : Int))) (fun ra4 ra_5 rb5 =>
            ∃ Jv_2 : Prop,
            ( cnd (rb2 != r3)
               (Jv_2)
               (cnd (ra3 != kind)
                 (Jv_2)
                 (cnd (rb3 != nonev)
                   (Jv_2)
                   (cnd (rb4 != nonev)
                     (Jv_2)
                     (cnd (rb5 != nonev)
                       (Jv_2)
                       (Ok68 ra_3 nodes (fun r5 =>
                       cnd (!r5)
                         (Jv_2)
                         (Ok69 ra_4 paths (fun r6 =>
                         cnd (!r6)
                           (Jv_2)
                           (Ok40 ra4 ra_5 c0 c1 (fun r7 =>
                           cnd (!r7)
                             (R false)
                             (Ok70 y y_2 ([ra_3] : List (List Int)) (fun lV1 sizeV2 =>
                             Ok71 lV1 sizeV2 ra_4 (fun lV1_2 sizeV2_2 =>
                             Ok41 ra4 ra_5 (Iv (IntKind.i64.wrap (turn + (1 : Int))) lV1_2 sizeV2_2 ∧ m (IntKind.i64.wrap (turn + (1 : Int))) lV1_2 sizeV2_2 < m turn y y_2))))))))))))))) ∧
            (Jv_2 →
            R false))))))
            (∃ Jv_3 : List (List Int) → Int → Prop,
            ( Ok72 y y_2 (fun lV1_3 sizeV2_3 r8 =>
             cnd r8
               (Ok73 r4 r_2 g edgesV (fun r9 =>
               cnd r9
                 (Ok68 (((([] : List Int) ++ edgesV2) ++ [(-5)]).take (Int.toNat ((edgesV2.length : Nat) : Int))) edgesV2 (fun r10 =>
                 R r10))
                 (Jv_3 lV1_3 sizeV2_3)))
               (Jv_3 lV1_3 sizeV2_3))) ∧
            ∀ y_3 : List (List Int), ∀ y_4 : Int, Jv_3 y_3 y_4 →
            R false))
set_option maxHeartbeats 2000000 in
theorem turnsK_ok {g : Int} {es : Es} {sel : List Int} {R : Bool → Prop} {e k : Int} {b : List Int} {p : List (List Int)} {n : Int} {l : Es} {none : Int} (hs : sel.length ≤ 1000000) (he : es.length ≤ 1000000) (A : AnsK g es sel e k b p n l none) (h : R true) : turnsK g es sel e k b p n l none R := by
  have et : ((([] : List Int) ++ sel) ++ [(-5)]).take (Int.toNat ((sel.length : Nat) : Int)) = sel := by
    rw [Int.toNat_natCast, List.nil_append, List.take_left]
  unfold turnsK
  rw [et]
  refine okTwin he ⟨by omega, by omega, by omega, by omega, ?_⟩
  refine ⟨fun t y s => ∃ i : Nat, t = i ∧ KeptOK y s, fun t _ _ => ((2 : Int) - t).toNat, ⟨0, rfl, KeptOK.nil⟩, ?_⟩
  rintro _ y s ⟨i, rfl, K⟩
  refine cnd_dec (fun hlt => ?_) fun hlt => ?_
  · refine A.kind (A.br (A.pa (A.sh ⟨False, ?_, fun z => z.elim⟩)))
    refine cnd_ne (fun q => absurd rfl q) fun _ => cnd_ne (fun q => absurd rfl q) fun _ => cnd_ne (fun q => absurd rfl q) fun _ => cnd_ne (fun q => absurd rfl q) fun _ => cnd_ne (fun q => absurd rfl q) fun _ => ?_
    refine okIntsK A.bl (cnd_not (fun q => by cases q) fun _ => okListsZ A.pl A.pr (cnd_not (fun q => by cases q) fun _ => okSameK A.ll (cnd_not (fun q => by cases q) fun _ => ?_)))
    refine okKeep K (by simp) (fun x hx => by rcases List.mem_singleton.1 hx with rfl; exact A.bl) fun y' s' K' => okKeepAll K' A.pl A.pr fun y2 s2 K2 => okSpoilE A.ll ?_
    rw [wr (by omega) (by omega)]
    exact ⟨⟨i + 1, by simp, K2⟩, by dsimp only; omega⟩
  · refine ⟨fun _ _ => False, okApart K (fun y' => cnd_b (fun _ => okKept he (cnd_b (fun _ => okIntsK hs h) fun q => (by cases q))) (fun q => (by cases q))), fun _ _ z => z.elim⟩
theorem okKuraAll {g : Int} {es : Es} {sel : List Int} {R : Bool → Prop} (h : R true) : Ok12 g es sel R := by
  apply ok12
  unfold T12
  refine okBegun58 (cnd_not (fun q => by cases q) fun _ => okLightK (fun h300 => cnd_not (fun q => by cases q) fun _ => cnd_dec (fun _ => h) fun h400 => ?_) (cnd_not (fun _ => h) fun q => by cases q))
  have hs : sel.length ≤ 1000000 := by omega
  have he : es.length ≤ 1000000 := by omega
  have pr0 : ∀ x ∈ ([] : List (List Int)), x.length ≤ 1000000 := fun x hx => by cases hx
  refine okMay12 hs (fun q => ?_) (fun q e f => ?_) fun q c => ?_
  · refine ⟨fun k b p n l => k = 0 ∧ b = [] ∧ p = [] ∧ n = 0 ∧ l = [], cnd_eq (fun w => absurd w (by decide)) fun _ => ⟨rfl, rfl, rfl, rfl, rfl⟩, ?_⟩
    rintro _ _ _ _ _ ⟨rfl, rfl, rfl, rfl, rfl⟩
    refine cnd_eq (fun w => absurd w (by decide)) fun _ => turnsK_ok hs he (AnsK.of hs (by simp) (by simp) pr0 (by simp) (fun _ => rfl) (fun q' => ?_) (fun q' => ?_) fun q' => ?_) h <;> rw [q] at q' <;> cases q'
  · refine ⟨fun k b p n l => k = 0 ∧ b = [] ∧ p = [] ∧ n = 0 ∧ l = [], cnd_eq (fun w => absurd w f.ne) fun _ => ⟨rfl, rfl, rfl, rfl, rfl⟩, ?_⟩
    rintro _ _ _ _ _ ⟨rfl, rfl, rfl, rfl, rfl⟩
    refine cnd_eq (fun w => absurd w f.ne) fun _ => turnsK_ok hs he (AnsK.of hs (by simp) (by simp) pr0 (by simp) (fun q' => ?_) (fun _ e' f' => ?_) (fun _ c => absurd c f.not) fun _ c => absurd c f.not) h
    · rw [q] at q'; cases q'
    · rw [f.uniq f']
  · have m := mayN q
    have mm := m.m
    refine ⟨fun k b p n l => ((¬ ∃ k b p, Good g es sel k b p) ∧ k = 0 ∧ b = [] ∧ p = [] ∧ n = 0 ∧ l = []) ∨ (Good g es sel k b p ∧ n = (b.length : Nat) ∧ l = p.map (shr es b)), cnd_eq (fun _ => ?_) fun w => absurd rfl w, ?_⟩
    · refine okAllR m c hs (fun n => okShrinkR m c hs (fun _ => .inl ⟨n, rfl, rfl, rfl, rfl, rfl⟩) fun k b p y => absurd ⟨k, b, p, y⟩ n) fun k b p y => okShrinkR m c hs (fun n => absurd ⟨k, b, p, y⟩ n) fun k' b' p' y' => ?_
      obtain ⟨rfl, rfl, rfl⟩ := good_uniq m c y y'
      exact .inr ⟨y, rfl, rfl⟩
    · rintro k b p n l (⟨ng, rfl, rfl, rfl, rfl, rfl⟩ | ⟨y, rfl, rfl⟩)
      · refine cnd_eq (fun _ => ⟨fun x => x = 14, cnd_eq (fun _ => rfl) fun w => absurd rfl w, ?_⟩) fun w => absurd rfl w
        rintro _ rfl
        refine turnsK_ok hs he (AnsK.of hs (by simp) (by simp) pr0 (by simp) (fun q' => ?_) (fun _ e' f' => absurd c f'.not) (fun _ _ _ => rfl) fun _ _ k b p y => absurd ⟨k, b, p, y⟩ ng) h
        rw [q] at q'; cases q'
      · refine cnd_eq (fun _ => ⟨fun x => x = 0, cnd_eq (fun w => absurd w y.ne) fun _ => rfl, ?_⟩) fun w => absurd rfl w
        rintro _ rfl
        obtain ⟨po, bl, pl⟩ := y.paths_ok m c
        refine turnsK_ok hs he (AnsK.of hs (by omega) (by omega) (fun x hx => by have := (po x hx).2; omega) (by rw [List.length_map]; omega) (fun q' => ?_) (fun _ e' f' => absurd c f'.not) (fun _ _ n => absurd ⟨k, b, p, y⟩ n) fun _ _ k' b' p' y' => ?_) h
        · rw [q] at q'; cases q'
        · obtain ⟨rfl, rfl, rfl⟩ := good_uniq m c y y'; rfl
end Go.Proofs.Ytmcloipjlihhlaa.N
namespace Go.Proofs.Ytmcloipjlihhlaa
open Go.X
theorem KuraAll_ok {g : Int} {es : List (Int × Int)} {sel : List Int} {h : Heap} {a0 a1 : Option Addr} {l0 l1 c0 c1 : Nat} (hp : Hp h [Ck.vw eP a0 l0 c0 es, Ck.vw eI a1 l1 c1 sel]) :
    CallsH Try.prog 12 #[.agg #[.int .i64 g, .slice a0 l0 c0], .slice a1 l1 c1] h fun v h' => Fr [] h h' ∧ v = .bool true :=
  (N.okKuraAll (R := fun b => b = true) rfl h _ _ _ _ _ _ hp).mono fun _ _ ⟨_, Y, e, q⟩ => ⟨Y.fr, q ▸ e⟩
end Go.Proofs.Ytmcloipjlihhlaa
