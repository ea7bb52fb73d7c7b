/- Package walk: ways up, rounds, sides. Conditions: none. -/
import Derived.Test.YtmcloipjlihhlaaTWalk2
import Derived.Test.YtmcloipjlihhlaaNWalk
namespace Go.Proofs.Ytmcloipjlihhlaa.N
open Go.X Go.Proofs.Ytmcloipjlihhlaa
set_option maxRecDepth 100000

theorem mateI_nat (h : Nat) : mateI (h : Int) = ((mate h : Nat) : Int) := by unfold mateI; rw [Int.toNat_natCast]
/-- The half-edges from a node up to where the walk began. -/
def upL (es : Es) (by' : List Int) : Nat → Int → List Int
  | 0, _ => []
  | k + 1, v => if 0 ≤ by'.getD v.toNat 0 then mateI (by'.getD v.toNat 0) :: upL es by' k (fromH es (by'.getD v.toNat 0).toNat) else []
def HalfIn (es : Es) (l : List Int) : Prop := ∀ x ∈ l, ∃ n : Nat, x = n ∧ n < 2 * es.length
theorem HalfIn.nil (es : Es) : HalfIn es [] := fun x hx => by cases hx
theorem upL_half {g : Int} {es : Es} {s : Int} {t : BT} (i : BI g es s t) : ∀ (k : Nat) (v : Int), v ∈ t.ord → HalfIn es (upL es t.by' k v)
  | 0, _, _ => HalfIn.nil es
  | k + 1, v, hv => by
    unfold upL
    split
    · rename_i hb
      by_cases hs : v = s
      · subst hs; have := i.bs; omega
      · obtain ⟨h, e, hh, ht, hf, _⟩ := i.tree v hv hs
        rw [e, mateI_nat, Int.toNat_natCast]
        intro x hx
        rcases List.mem_cons.1 hx with rfl | hx
        · exact ⟨_, rfl, mate_lt hh⟩
        · exact upL_half i k _ hf x hx
    · exact HalfIn.nil es
theorem okUp {g s v : Int} {es : Es} {outs : List (List Int)} {t : BT} {o f l : List Int} {R : List Int → Prop} (m : MayN g es) (i : BI g es s t) (hv : v ∈ t.ord) (h : R (upL es t.by' g.toNat v)) : Ok218 g es outs o t.by' f l v R := by
  apply ok218
  unfold T218
  have m1 := m.g1
  have m3 := m.m
  have il := i.len
  have bv := i.bnd v (i.rng v hv).1 (i.rng v hv).2
  refine ⟨fun w out => w ∈ t.ord ∧ (out.length : Int) + t.far.getD w.toNat 0 = t.far.getD v.toNat 0 ∧ out ++ upL es t.by' (g.toNat - out.length) w = upL es t.by' g.toNat v, fun w _ => (t.far.getD w.toNat 0).toNat, ⟨hv, by simp, by simp⟩, ?_⟩
  rintro w out ⟨hw, hl, he⟩
  have wr1 := i.rng w hw
  have wf := (i.mem w wr1.1 wr1.2).2 hw
  refine ⟨wr1.1, by rw [i.lb]; omega, fun b hb => ?_⟩
  have hb := getD_of hb
  refine cnd_dec (fun q => ?_) fun q => ?_
  · have hs : w ≠ s := fun e => by rw [e, i.bs] at hb; omega
    obtain ⟨h, e, hh, ht, hf, hfar⟩ := i.tree w hw hs
    have eb : b = h := by rw [← hb, e]
    subst eb
    have ff := (i.mem _ (i.rng _ hf).1 (i.rng _ hf).2).2 hf
    rw [xor_one (by omega)]
    refine ⟨by omega, okToW (mate_lt hh) (by omega) ?_⟩
    rw [to_mate]
    refine ⟨⟨hf, by rw [List.length_append, List.length_singleton]; omega, ?_⟩, by dsimp only; omega⟩
    rw [← he]
    have e2 : g.toNat - out.length = (g.toNat - (out ++ [((mate h : Nat) : Int)]).length) + 1 := by rw [List.length_append, List.length_singleton]; omega
    rw [e2, upL, if_pos (by rw [e]; omega), e, mateI_nat, Int.toNat_natCast, List.append_assoc]
    rfl
  · have e2 : upL es t.by' (g.toNat - out.length) w = [] := by
      cases g.toNat - out.length with
      | zero => rfl
      | succ k => unfold upL; rw [if_neg (by rw [hb]; exact q)]
    rw [e2, List.append_nil] at he
    rw [he]; exact h
/-- Without what both end in, from the ends on. -/
def stripR : List Int → List Int → List Int × List Int
  | a :: x, b :: y => if a = b then stripR x y else (a :: x, b :: y)
  | x, y => (x, y)
theorem stripR_nil_l (y : List Int) : stripR [] y = ([], y) := by cases y <;> rfl
theorem stripR_nil_r (x : List Int) : stripR x [] = (x, []) := by cases x <;> rfl
def roundM (g : Int) (es : Es) (by' : List Int) (h : Int) : List Int :=
  h :: ((stripR (upL es by' g.toNat (toH es h.toNat)).reverse (upL es by' g.toNat (fromH es h.toNat)).reverse).1.reverse ++ (stripR (upL es by' g.toNat (toH es h.toNat)).reverse (upL es by' g.toNat (fromH es h.toNat)).reverse).2.map mateI)
theorem last_of {l : List Int} {x : Int} (hl : 0 < l.length) (h : l[l.length - 1]? = some x) : ∃ p, l = p ++ [x] := by
  have hne : l ≠ [] := fun e => by rw [e] at hl; simp at hl
  refine ⟨l.dropLast, ?_⟩
  have e := List.dropLast_concat_getLast hne
  rw [List.getLast_eq_getElem] at e
  rw [List.getElem?_eq_getElem (by omega)] at h
  rw [← Option.some.inj h, e]
theorem upL_len {es : Es} {by' : List Int} : ∀ (k : Nat) (v : Int), (upL es by' k v).length ≤ k
  | 0, _ => Nat.le_refl _
  | k + 1, v => by
    unfold upL
    split
    · have := upL_len (es := es) (by' := by') k (fromH es (by'.getD v.toNat 0).toNat)
      simp only [List.length_cons]; omega
    · simp
theorem okRound {g s : Int} {es : Es} {outs : List (List Int)} {t : BT} {o f l : List Int} {h : Nat} {R : List Int → Prop} (m : MayN g es) (i : BI g es s t) (hh : h < 2 * es.length) (h1 : toH es h ∈ t.ord) (h2 : fromH es h ∈ t.ord) (hR : R (roundM g es t.by' h)) : Ok182 g es outs o t.by' f l h R := by
  apply ok182
  unfold T182
  have m1 := m.g1
  have m3 := m.m
  rw [xor_one (by omega)]
  refine okToW hh (by omega) (okUp m i h1 (okToW (mate_lt hh) (by omega) ?_))
  rw [to_mate]
  refine okUp m i h2 ?_
  unfold roundM at hR
  rw [Int.toNat_natCast] at hR
  have hF := upL_half i g.toNat _ h1
  have hT := upL_half i g.toNat _ h2
  have lF := upL_len (es := es) (by' := t.by') g.toNat (toH es h)
  have lT := upL_len (es := es) (by' := t.by') g.toNat (fromH es h)
  generalize upL es t.by' g.toNat (toH es h) = F at *
  generalize upL es t.by' g.toNat (fromH es h) = T at *
  refine ⟨fun f' t' => f'.reverse = (stripR F.reverse T.reverse).1 ∧ t'.reverse = (stripR F.reverse T.reverse).2 ∧ HalfIn es t' ∧ f'.length ≤ 100000 ∧ t'.length ≤ 100000, ?_, ?_⟩
  · refine ⟨fun f' t' => stripR f'.reverse t'.reverse = stripR F.reverse T.reverse ∧ HalfIn es t' ∧ f'.length ≤ 100000 ∧ t'.length ≤ 100000, fun f' _ => f'.length, ⟨rfl, hT, by omega, by omega⟩, ?_⟩
    rintro f' t' ⟨e, ht, l1, l2⟩
    refine ⟨stripR f'.reverse t'.reverse = (f'.reverse, t'.reverse), ?_, fun q => ⟨by rw [← e, q], by rw [← e, q], ht, l1, l2⟩⟩
    refine cnd_dec (fun q1 => cnd_dec (fun q2 => ?_) fun q2 => ?_) fun q1 => ?_
    · rw [wr (x := (f'.length : Int) - 1) (by omega) (by omega), wr (x := (t'.length : Int) - 1) (by omega) (by omega)]
      refine ⟨by omega, by omega, fun x hx => ⟨by omega, by omega, fun y hy => ?_⟩⟩
      obtain ⟨p, rfl⟩ := last_of (l := f') (by omega) (by rw [show f'.length - 1 = ((f'.length : Int) - 1).toNat by omega]; exact hx)
      obtain ⟨p2, rfl⟩ := last_of (l := t') (by omega) (by rw [show t'.length - 1 = ((t'.length : Int) - 1).toNat by omega]; exact hy)
      have ep : ((p ++ [x]).length : Int) - 1 = (p.length : Int) := by simp
      have ep2 : ((p2 ++ [y]).length : Int) - 1 = (p2.length : Int) := by simp
      simp only [List.length_append, List.length_singleton] at l1 l2
      refine cnd_eq (fun q3 => ?_) fun q3 => ?_
      · subst q3
        rw [ep, ep2, Int.toNat_natCast, Int.toNat_natCast, List.take_left, List.take_left]
        refine ⟨by omega, by simp; omega, by omega, by simp; omega, ⟨?_, fun z hz => ht z (List.mem_append_left _ hz), by omega, by omega⟩, by simp⟩
        rw [← e, List.reverse_append, List.reverse_append]
        simp [stripR]
      · have e2 : stripR (p ++ [x]).reverse (p2 ++ [y]).reverse = ((p ++ [x]).reverse, (p2 ++ [y]).reverse) := by
          rw [List.reverse_append, List.reverse_append]
          simp [stripR, q3]
        exact ⟨by rw [← e, e2], by rw [← e, e2], ht, by simp; omega, by simp; omega⟩
    · have : t' = [] := by cases t' with
        | nil => rfl
        | cons a b => simp at q2
      subst this
      simp [stripR_nil_r]
    · have : f' = [] := by cases f' with
        | nil => rfl
        | cons a b => simp at q1
      subst this
      simp [stripR_nil_l]
  · rintro f' t' ⟨e1, e2, ht, l1, l2⟩
    rw [← e1, ← e2, List.reverse_reverse] at hR
    refine ⟨by omega, ?_⟩
    rw [wr (by omega) (by omega)]
    refine ⟨fun out k => ∃ j : Nat, j ≤ t'.length ∧ k = (t'.length : Int) - 1 - j ∧ out = [(h : Int)] ++ f' ++ (t'.reverse.take j).map mateI, fun _ k => (k + 1).toNat, ⟨0, Nat.zero_le _, by omega, by simp⟩, ?_⟩
    rintro _ _ ⟨j, hj, rfl, rfl⟩
    refine cnd_dec (fun q => ⟨q, by omega, fun x hx => ?_⟩) fun q => ?_
    · have hx2 : t'.reverse[j]? = some x := by
        rw [List.getElem?_reverse (by omega), ← hx]
        congr 1; omega
      obtain ⟨n, rfl, hn⟩ := ht x (List.mem_of_getElem? hx)
      rw [xor_one (by omega), wr (by omega) (by omega)]
      refine ⟨by simp; omega, ⟨j + 1, by omega, by omega, ?_⟩, by dsimp only; omega⟩
      rw [List.take_add_one, hx2, List.map_append]
      simp [mateI_nat]
    · have : j = t'.length := by omega
      subst this
      have e3 : t'.reverse.take t'.length = t'.reverse := by
        have := List.take_length (l := t'.reverse)
        rwa [List.length_reverse] at this
      rw [e3, List.append_assoc]
      exact hR
def sFill (far : List Int) (side ws : List Int) : List Int := ws.foldl (fun l w => l.set w.toNat (far.getD w.toNat 0 % 2)) side
theorem sFill_len (far : List Int) : ∀ (ws side : List Int), (sFill far side ws).length = side.length
  | [], _ => rfl
  | w :: ws, l => by
    show (sFill far (l.set w.toNat _) ws).length = _
    rw [sFill_len far ws]; simp
theorem sFill_succ {far side ws : List Int} {j : Nat} {w : Int} (h : ws[j]? = some w) : sFill far side (ws.take (j + 1)) = (sFill far side (ws.take j)).set w.toNat (far.getD w.toNat 0 % 2) := by
  unfold sFill
  rw [List.take_add_one, h, List.foldl_append]; rfl
def badH (es : Es) (side : List Int) (h : Int) : Bool := side.getD (toH es h.toNat).toNat 0 == side.getD (fromH es h.toNat).toNat 0
def firstBad (es : Es) (side ord : List Int) : Option Int := (ord.flatMap (outV es)).find? (badH es side)
def sStep (g : Int) (es : Es) (k : Nat) (side : List Int) : List Int ⊕ List Int :=
  if 0 ≤ side.getD k 0 then .inl side else
  match firstBad es (sFill (bfs g es k).far side (bfs g es k).ord) (bfs g es k).ord with
  | some h => .inr (roundM g es (bfs g es k).by' h)
  | none => .inl (sFill (bfs g es k).far side (bfs g es k).ord)
def sK (g : Int) (es : Es) : Nat → List Int ⊕ List Int
  | 0 => .inl (List.replicate g.toNat (-1))
  | k + 1 => match sK g es k with
    | .inl side => sStep g es k side
    | .inr l => .inr l
theorem sK_stay {g : Int} {es : Es} {k : Nat} {l : List Int} (h : sK g es k = .inr l) : ∀ d, sK g es (k + d) = .inr l
  | 0 => h
  | d + 1 => by rw [← Nat.add_assoc, sK, sK_stay h d]
theorem sK_len {g : Int} {es : Es} : ∀ (k : Nat) {side : List Int}, sK g es k = .inl side → side.length = g.toNat
  | 0, side, h => by
    have : List.replicate g.toNat (-1) = side := Sum.inl.inj h
    rw [← this]; simp
  | k + 1, side, h => by
    rw [sK] at h
    split at h
    · rename_i s0 e
      have := sK_len k e
      unfold sStep at h
      split at h
      · rw [← Sum.inl.inj h]; exact this
      · split at h
        · cases h
        · rw [← Sum.inl.inj h, sFill_len]; exact this
    · cases h
def sidesM (g : Int) (es : Es) : List Int × List Int := match sK g es g.toNat with
  | .inl s => (s, [])
  | .inr l => ([], l)
theorem okSides {g : Int} {es : Es} {R : List Int → List Int → Int → Prop} (bad : mayB g es = false → R [] [] 1) (good : mayB g es = true → R (sidesM g es).1 (sidesM g es).2 0) : Ok90 g es R := by
  apply ok90
  unfold T90
  refine okMay (cnd_not (fun q => bad q) fun q => ?_)
  have m := mayN q
  have m0 := m.g0
  have m1 := m.g1
  have m3 := m.m
  have good := good q
  refine okOfW m (okFilled m0 (by omega) ⟨fun x c => ∃ k : Nat, x = k ∧ k ≤ g.toNat ∧ sK g es k = .inl c, fun x _ => (g - x).toNat, ⟨0, rfl, Nat.zero_le _, rfl⟩, ?_⟩)
  rintro _ side ⟨k, rfl, hk, hs⟩
  have hsl := sK_len k hs
  rw [List.length_replicate]
  refine cnd_dec (fun hlt => ?_) fun hlt => ?_
  · refine ⟨fun c => sK g es (k + 1) = .inl c, ⟨by omega, hlt, fun y hy => ?_⟩, ?_⟩
    · rw [Int.toNat_natCast] at hy
      have hy := getD_of hy
      have e1 : sK g es (k + 1) = sStep g es k side := by rw [sK, hs]
      refine cnd_dec (fun q2 => ?_) fun q2 => ?_
      · rw [e1]; unfold sStep; rw [if_pos (by rw [hy]; exact q2)]
      · have i := bfs_BI m (s := k) (by omega) (by omega)
        have il := i.len
        have e2 : sStep g es k side = match firstBad es (sFill (bfs g es k).far side (bfs g es k).ord) (bfs g es k).ord with
          | some h => .inr (roundM g es (bfs g es k).by' h)
          | none => .inl (sFill (bfs g es k).far side (bfs g es k).ord) := by unfold sStep; rw [if_neg (by rw [hy]; exact q2)]
        rw [e2] at e1
        refine okBreadthL m (by omega) (by omega) ⟨fun x c => ∃ j : Nat, x = j ∧ j ≤ (bfs g es k).ord.length ∧ c = sFill (bfs g es k).far side ((bfs g es k).ord.take j), fun x _ => ((bfs g es k).ord.length - x).toNat, ⟨0, rfl, Nat.zero_le _, rfl⟩, ?_⟩
        rintro _ _ ⟨j, rfl, hj, rfl⟩
        refine cnd_dec (fun q3 => ⟨by omega, q3, fun w hw => ?_⟩) fun q3 => ?_
        · rw [Int.toNat_natCast] at hw
          have hwm := List.mem_of_getElem? hw
          have hwr := i.rng w hwm
          have hwf := (i.mem w hwr.1 hwr.2).2 hwm
          refine ⟨hwr.1, by rw [i.lf]; omega, fun u hu => ?_⟩
          have hu := getD_of hu
          rw [wr (x := (j : Int) + 1) (by omega) (by omega)]
          refine ⟨by decide, hwr.1, by omega, ⟨j + 1, by simp, by omega, ?_⟩, by dsimp only; omega⟩
          rw [sFill_succ hw, hu, Int.tmod_eq_emod_of_nonneg (by omega)]
        · have : j = (bfs g es k).ord.length := by omega
          subst this
          rw [List.take_length]
          generalize hS : sFill (bfs g es k).far side (bfs g es k).ord = S at *
          have hSl : S.length = g.toNat := by rw [← hS, sFill_len]; exact hsl
          refine ⟨fun x => ∃ a : Nat, x = a ∧ a ≤ (bfs g es k).ord.length ∧ ∀ h ∈ ((bfs g es k).ord.take a).flatMap (outV es), badH es S h = false, fun x => ((bfs g es k).ord.length - x).toNat, ⟨0, rfl, Nat.zero_le _, fun h hh => by simp at hh⟩, ?_⟩
          rintro _ ⟨a, rfl, ha, hno⟩
          refine cnd_dec (fun q4 => ⟨by omega, q4, fun w hw => ?_⟩) fun q4 => ?_
          · rw [Int.toNat_natCast] at hw
            have hwm := List.mem_of_getElem? hw
            have hwr := i.rng w hwm
            refine ⟨hwr.1, by rw [outsA_len]; omega, fun ll hll => ?_⟩
            obtain rfl := outsA_get hwr.2 hwr.1 hll
            have hol : (outV es w).length ≤ 2 * es.length := outL_len _ _ _
            refine ⟨fun x => ∃ b : Nat, x = b ∧ b ≤ (outV es w).length ∧ ∀ h ∈ (outV es w).take b, badH es S h = false, fun x => ((outV es w).length - x).toNat, ⟨0, rfl, Nat.zero_le _, fun h hh => by simp at hh⟩, ?_⟩
            rintro _ ⟨b, rfl, hb, hno2⟩
            refine cnd_dec (fun q5 => ⟨by omega, q5, fun x hx => ?_⟩) fun q5 => ?_
            · rw [Int.toNat_natCast] at hx
              obtain ⟨n, rfl, hn, hf⟩ := outV_mem hwr.1 (List.mem_of_getElem? hx)
              have ht := toH_in m hn
              refine ⟨hwr.1, by omega, fun u hu => okToW hn (by omega) ⟨ht.1, by omega, fun u2 hu2 => ?_⟩⟩
              have hu := getD_of hu
              have hu2 := getD_of hu2
              have eb : badH es S n = (u2 == u) := by unfold badH; rw [Int.toNat_natCast, hf, hu, hu2]
              refine cnd_eq (fun q6 => ?_) fun q6 => ?_
              · have hin : (toH es n) ∈ (bfs g es k).ord := (bfs_done m (by omega) (by omega) hn (hf ▸ hwm)).1
                refine okRound m i hn hin (hf ▸ hwm) ?_
                have hfb : firstBad es S (bfs g es k).ord = some (n : Int) := by
                  unfold firstBad
                  rw [List.find?_eq_some_iff_append]
                  refine ⟨by rw [eb]; simpa using q6, ((bfs g es k).ord.take a).flatMap (outV es) ++ (outV es w).take b, (outV es w).drop (b + 1) ++ ((bfs g es k).ord.drop (a + 1)).flatMap (outV es), ?_, fun z hz => ?_⟩
                  · have e5 : (bfs g es k).ord = (bfs g es k).ord.take a ++ w :: (bfs g es k).ord.drop (a + 1) := by
                      have h1 := (List.getElem?_eq_some_iff.1 hw)
                      obtain ⟨h1, h2⟩ := h1
                      rw [← h2, List.getElem_cons_drop, List.take_append_drop]
                    have e6 : outV es w = (outV es w).take b ++ (n : Int) :: (outV es w).drop (b + 1) := by
                      obtain ⟨h1, h2⟩ := (List.getElem?_eq_some_iff.1 hx)
                      rw [← h2, List.getElem_cons_drop, List.take_append_drop]
                    conv => lhs; rw [e5]
                    rw [List.flatMap_append, List.flatMap_cons]
                    conv => lhs; rw [e6]
                    simp [List.append_assoc]
                  · rcases List.mem_append.1 hz with hz | hz
                    · rw [hno z hz]; rfl
                    · rw [hno2 z hz]; rfl
                rw [hfb] at e1
                have e7 := sK_stay e1 (g.toNat - (k + 1))
                rw [show k + 1 + (g.toNat - (k + 1)) = g.toNat by omega] at e7
                unfold sidesM at good
                rw [e7] at good
                exact good
              · rw [wr (by omega) (by omega)]
                refine ⟨⟨b + 1, by simp, by omega, fun z hz => ?_⟩, by dsimp only; omega⟩
                rw [List.take_add_one, hx] at hz
                rcases List.mem_append.1 hz with hz | hz
                · exact hno2 z hz
                · have : z = n := by simpa using hz
                  subst this
                  rw [eb]; simpa using q6
            · have : b = (outV es w).length := by omega
              subst this
              rw [List.take_length] at hno2
              rw [wr (by omega) (by omega)]
              refine ⟨⟨a + 1, by simp, by omega, fun z hz => ?_⟩, by dsimp only; omega⟩
              rw [List.take_add_one, hw, List.flatMap_append] at hz
              rcases List.mem_append.1 hz with hz | hz
              · exact hno z hz
              · exact hno2 z (by simpa using hz)
          · have : a = (bfs g es k).ord.length := by omega
            subst this
            rw [List.take_length] at hno
            have hfb : firstBad es S (bfs g es k).ord = none := by
              unfold firstBad
              rw [List.find?_eq_none]
              intro z hz
              rw [hno z hz]; simp
            rw [hfb] at e1
            exact e1
    · rintro c e
      rw [wr (by omega) (by omega)]
      exact ⟨⟨k + 1, by simp, by omega, e⟩, by dsimp only; omega⟩
  · have : k = g.toNat := by omega
    subst this
    unfold sidesM at good
    rw [hs] at good
    exact good
end Go.Proofs.Ytmcloipjlihhlaa.N
