/- Package kura, by hand over memory: two sides. Conditions: none. -/
import Derived.Test.YtmcloipjlihhlaaNKuraH
set_option linter.unusedSimpArgs false
set_option linter.unusedVariables false
namespace Go.Proofs.Ytmcloipjlihhlaa.N
open Go.X Go.Proofs.Ytmcloipjlihhlaa
set_option maxRecDepth 100000

/-- A slice of one's own, told shorter and with less room. -/
theorem ownLess {h : Heap} {e sz n c n' c' : Nat} {a : Option Addr} {xs : List Value} (o : Own h e sz a n c xs) (h1 : n' ≤ n) (h2 : n' ≤ c') (h3 : c' ≤ c) (h4 : 0 < n') : Own h e sz a n' c' (xs.take (n' * sz)) := by
  obtain ⟨q1, q2⟩ := o
  refine ⟨?_, ?_⟩
  · rw [List.length_take, q1]
    exact Nat.min_eq_left (Nat.mul_le_mul_right _ h1)
  · rcases q2 with ⟨_, rfl, rfl⟩ | ⟨g, cur, rfl, g1, g2, g3, g4, g5⟩
    · omega
    · refine .inr ⟨g, cur, rfl, g1, h2, by omega, Nat.le_trans (Nat.mul_le_mul_right _ h3) g4, ?_⟩
      rw [← g5, List.take_take, Nat.min_eq_left (Nat.mul_le_mul_right _ h1)]
def isNo (es : Es) (paths : List (List Int)) (u v : Int) : Bool := (betw es paths u v).isNone
def sideA (es : Es) (paths : List (List Int)) (u : Int) (l : List Int) : List Int := u :: l.filter (isNo es paths u)
def sideB (es : Es) (paths : List (List Int)) (u : Int) (l : List Int) : List Int := l.filter fun v => !isNo es paths u v
theorem sideA_app (es : Es) (paths : List (List Int)) (u v : Int) (l : List Int) : sideA es paths u (l ++ [v]) = sideA es paths u l ++ if isNo es paths u v = true then [v] else [] := by
  unfold sideA
  rw [List.filter_append, List.cons_append]
  cases e : isNo es paths u v with
  | true => simp [e]
  | false => simp [e]
theorem sideB_app (es : Es) (paths : List (List Int)) (u v : Int) (l : List Int) : sideB es paths u (l ++ [v]) = sideB es paths u l ++ if isNo es paths u v = true then [] else [v] := by
  unfold sideB
  rw [List.filter_append]
  cases e : isNo es paths u v with
  | true => simp [e]
  | false => simp [e]
theorem side_len (es : Es) (paths : List (List Int)) (u : Int) : ∀ l : List Int, (sideA es paths u l).length + (sideB es paths u l).length = l.length + 1
  | [] => rfl
  | v :: l => by
    have := side_len es paths u l
    unfold sideA sideB at *
    simp only [List.filter_cons, List.length_cons] at *
    cases isNo es paths u v with
    | true => simp at *; omega
    | false => simp at *; omega
def pairsOf (f o : List Int) : List (Int × Int) := f.flatMap fun u => o.map fun v => (u, v)
theorem pairsOf_app (f o : List Int) (u : Int) : pairsOf (f ++ [u]) o = pairsOf f o ++ o.map fun v => (u, v) := by simp [pairsOf, List.flatMap_append]
theorem pairsOf_len (o : List Int) : ∀ f : List Int, (pairsOf f o).length = f.length * o.length
  | [] => by simp [pairsOf]
  | u :: f => by
    have := pairsOf_len o f
    unfold pairsOf at *
    rw [List.flatMap_cons, List.length_append, this, List.length_map, List.length_cons, Nat.add_mul, Nat.one_mul]; omega
theorem pairsOf_nodup {o : List Int} (ho : o.Nodup) : ∀ {f : List Int}, f.Nodup → (pairsOf f o).Nodup
  | [], _ => by simp [pairsOf]
  | u :: f, hf => by
    obtain ⟨h1, h2⟩ := List.nodup_cons.1 hf
    have ih := pairsOf_nodup ho h2
    unfold pairsOf at *
    rw [List.flatMap_cons]
    refine List.nodup_append.2 ⟨?_, ih, ?_⟩
    · exact List.Pairwise.map _ (fun a b hab e => hab (Prod.mk.inj e).2) ho
    · intro a ha b hb e
      subst e
      obtain ⟨v, _, rfl⟩ := List.mem_map.1 ha
      obtain ⟨u', hu', hb⟩ := List.mem_flatMap.1 hb
      obtain ⟨v', _, e⟩ := List.mem_map.1 hb
      exact h1 ((Prod.mk.inj e).1 ▸ hu')
theorem okParted {g k u : Int} {es : Es} {outs paths : List (List Int)} {rest : List Int} {R : Int → List Int → List (List Int) → Int → Prop} (hl : es.length ≤ 1000000) (hn : paths.length ≤ 1000000) (hp : ∀ p ∈ paths, HIn es p ∧ p.length ≤ 1000000)
    (h5 : rest.length = 5) (nd : (u :: rest).Nodup) (b1 : (sideB es paths u rest).length ≠ 3 → R g (u :: rest) paths k)
    (b2 : (sideB es paths u rest).length = 3 → (∃ q ∈ pairsOf (sideA es paths u rest) (sideB es paths u rest), betw es paths q.1 q.2 = none) → R g (sideA es paths u rest ++ sideB es paths u rest) paths k)
    (good : (sideB es paths u rest).length = 3 → ∀ ix, ix.length = (pairsOf (sideA es paths u rest) (sideB es paths u rest)).length → Sel es paths (pairsOf (sideA es paths u rest) (sideB es paths u rest)) ix → R g (sideA es paths u rest ++ sideB es paths u rest) (ix.map fun i => paths.getD i []) 33) :
    Ok210 g es outs (u :: rest) paths k R := by
  intro h fB eA eL eC oA oL oC oH bA bL bC pA pL pC pH H
  obtain ⟨M, hM⟩ : ∃ M, M = owns [Ck.ob fB 190 [.int .i64 g, .slice eA eL eC, .slice oA oL oC, .slice bA bL bC, .slice pA pL pC, .int .i64 k], Ck.sl eI 3 bA bL bC (u :: rest), Ck.rows eI 40 3 pA pL pC pH paths] := ⟨_, rfl⟩
  rw [← hM]
  have Y : Sy h M h _ := Sy.startM H hM.symm
  clear hM
  obtain rfl := Y.lenV 1 rfl
  obtain rfl := Y.lenW 2 rfl
  obtain rfl := Y.lenS 3 rfl
  obtain rfl := Y.lenR 4 rfl
  have hbl : (u :: rest).length = 6 := by simp [h5]
  have hcap := (Y.ownS 3 rfl).cap
  obtain ⟨gb, hbA⟩ : ∃ gb, bA = some ⟨gb, 0, none⟩ := by
    obtain ⟨gb, _, e, _⟩ := (Y.ownS 3 rfl).at (by omega)
    exact ⟨gb, e⟩
  apply calls210
  unfold S210
  refine ⟨fB, 0, rfl, _, _, _, Y.cellO 0 rfl 3 rfl, by decide, by omega, by decide, by decide, fB, 0, rfl, _, _, _, Y.cellO 0 rfl 3 rfl, by decide, by omega, ?_⟩
  have Y : Sy h _ h [_, _, _, _, _, _] := Y.nilS eI 3
  have Y : Sy h _ h [_, _, _, _, _, _, _] := Y.addNo
  -- the first side is the branch nodes' own head, or a slice of its own
  refine ⟨fun l h' => ∃ (fA : Option Addr) (fL fC : Nat) (oA' : Option Addr) (oC' n : Nat) (c7 : Ck), l = [.slice fA fL fC, .slice oA' (sideB es paths u (rest.take n)).length oC', .int .i64 n] ∧ n ≤ 5 ∧ fL = (sideA es paths u (rest.take n)).length ∧
      ((c7 = Ck.no ∧ fA = bA ∧ fC = 1 ∧ sideA es paths u (rest.take n) = [u]) ∨ c7 = Ck.sl eI 3 fA (sideA es paths u (rest.take n)).length fC (sideA es paths u (rest.take n))) ∧
      Sy h M h' [Ck.ob fB 190 [.int .i64 g, .slice eA es.length eC, .slice oA outs.length oC, .slice bA (u :: rest).length bC, .slice pA paths.length pC, .int .i64 k], Ck.vw eP eA es.length eC es, Ck.vrows eI oA outs.length oC oH outs, Ck.sl eI 3 bA (u :: rest).length bC (u :: rest), Ck.rows eI 40 3 pA paths.length pC pH paths, Ck.sl eI 3 oA' (sideB es paths u (rest.take n)).length oC' (sideB es paths u (rest.take n)), c7],
    fun l _ => (match l with | [_, _, .int _ x] => ((5 : Int) - x).toNat | _ => 0), ⟨bA, 1, 1, none, 0, 0, Ck.no, ?_, by omega, rfl, .inl ⟨rfl, rfl, rfl, rfl⟩, Y⟩, ?_⟩
  · rw [hbA]; rfl
  rintro fA fL fC oA' oL' oC' _ hv ⟨_, _, _, _, _, n, c7, e, hn5, rfl, hc7, Y⟩
  cases e
  have lens := side_len es paths u (rest.take n)
  have ltk : (rest.take n).length = n := by rw [List.length_take]; omega
  -- the head of the first side
  have head : ∃ b4, fA = some ⟨b4, 0, none⟩ ∧ hcell hv b4 (0 + Int.toNat 0 * 1) = some (.int .i64 u) := by
    rcases hc7 with ⟨_, rfl, _, _⟩ | rfl
    · refine ⟨gb, hbA, ?_⟩
      exact Y.cellS 3 rfl hbA (i := 0) (t := 0) (x := u) rfl rfl
    · obtain ⟨b4, _, e4, _⟩ := (Y.ownS 6 rfl).at (by simp [sideA])
      exact ⟨b4, e4, Y.cellS 6 rfl e4 (i := 0) (t := 0) (x := u) rfl rfl⟩
  have capB : (sideA es paths u (rest.take n)).length = 1 ∧ fC = 1 ∧ fA = bA ∧ c7 = Ck.no ∨ c7 = Ck.sl eI 3 fA (sideA es paths u (rest.take n)).length fC (sideA es paths u (rest.take n)) := by
    rcases hc7 with ⟨e1, e2, e3, e4⟩ | e
    · exact .inl ⟨by rw [e4]; rfl, e3, e2, e1⟩
    · exact .inr e
  refine cnd_dec (fun hlt => ?_) fun hlt => ?_
  · have hn4 : n < 5 := by simp [hbl] at hlt; omega
    obtain ⟨v, hvx⟩ : ∃ v, rest[n]? = some v := ⟨_, List.getElem?_eq_getElem (by omega)⟩
    have hA1 : sideA es paths u (rest.take (n + 1)) = sideA es paths u (rest.take n) ++ if isNo es paths u v = true then [v] else [] := by
      rw [← sideA_app]; congr 1; rw [List.take_add_one, hvx]; rfl
    have hB1 : sideB es paths u (rest.take (n + 1)) = sideB es paths u (rest.take n) ++ if isNo es paths u v = true then [] else [v] := by
      rw [← sideB_app]; congr 1; rw [List.take_add_one, hvx]; rfl
    obtain ⟨b4, e4, hc4⟩ := head
    have hxv : hcell hv gb (0 + 1 * 1 + Int.toNat ((n : Nat) : Int) * 1) = some (.int .i64 v) := by
      have := Y.cellS 3 rfl hbA (i := n + 1) (t := 0) (x := v) (by simpa using hvx) rfl
      rw [show 0 + 1 * 1 + Int.toNat ((n : Nat) : Int) * 1 = 0 + (n + 1) * eI.sz + 0 by simp [eI]; omega]
      exact this
    refine ⟨gb, 0 + 1 * 1, ?_, by omega, hlt, v, hxv, b4, 0, e4, by decide, ?_, u, hc4, ?_⟩
    · rw [if_neg (by simp at hcap ⊢; omega), hbA]; rfl
    · have : 0 < (sideA es paths u (rest.take n)).length := by simp [sideA]
      omega
    refine callX_sy (okBetw (u := u) (v := v) hl hn hp ((((Y.turn 0 rfl To.obvob).turn 3 rfl To.slvw).turn 4 rfl To.rowsv).pick [0, 1, 2, 3, 4] rfl).hp) (fun _ _ ⟨q, _⟩ => q.fr) alln ?_
    rintro w hv2 ⟨PP, hw⟩
    have Y : Sy _ _ hv2 [_, _, _, _, _, _, _] := Y.gr PP.fr
    clear PP
    -- behind both ways
    refine Exists.elim (p := fun F : Option Addr → Nat → Option Addr → Nat → Heap → Prop => F = fun fA' fC' oA'' oC'' h' => ∃ c7', ((c7' = Ck.no ∧ fA' = bA ∧ fC' = 1 ∧ sideA es paths u (rest.take (n + 1)) = [u]) ∨ c7' = Ck.sl eI 3 fA' (sideA es paths u (rest.take (n + 1))).length fC' (sideA es paths u (rest.take (n + 1)))) ∧
      Sy h M h' [Ck.ob fB 190 [.int .i64 g, .slice eA es.length eC, .slice oA outs.length oC, .slice bA (u :: rest).length bC, .slice pA paths.length pC, .int .i64 k], Ck.vw eP eA es.length eC es, Ck.vrows eI oA outs.length oC oH outs, Ck.sl eI 3 bA (u :: rest).length bC (u :: rest), Ck.rows eI 40 3 pA paths.length pC pH paths, Ck.sl eI 3 oA'' (sideB es paths u (rest.take (n + 1))).length oC'' (sideB es paths u (rest.take (n + 1))), c7']) ⟨_, rfl⟩ fun F hF => ?_
    obtain ⟨rA, rL, rC, rfl, hr⟩ : ∃ (rA : Option Addr) (rL rC : Nat), w = .slice rA rL rC ∧ Option.isNone rA = isNo es paths u v := by
      unfold isNo
      rcases hw with ⟨e1, e2⟩ | ⟨i, r, p, e1, _, _, e2, e3⟩
      · exact ⟨none, 0, 0, e2, by rw [e1]; rfl⟩
      · exact ⟨r.a, p.length, r.c, e2, by rw [e1, e3]; rfl⟩
    refine ⟨rA, rL, rC, rfl, fun l h' => ∃ fA' fC' oA'' oC'', l = [.slice fA' (sideA es paths u (rest.take (n + 1))).length fC', .slice oA'' (sideB es paths u (rest.take (n + 1))).length oC''] ∧ F fA' fC' oA'' oC'' h', cnd_not (fun q => ?_) (fun q => ?_), ?_⟩
    · -- a path: it stands on the other side
      rw [hr] at q
      rw [if_neg (by rw [q]; decide), List.append_nil] at hA1
      rw [if_neg (by rw [q]; decide)] at hB1
      intro hv3
      have Y : Sy _ _ hv3 [_, _, _, _, _, _, _, _] := Y.junk _
      clear_value hv3
      refine ⟨_, Y.ownS 5 rfl, allc (Y.nJ 5 7 rfl rfl rfl) alln, by omega, by simp [maxLen]; omega, ?_⟩
      intro sA sC hv5 ow fA_ gA gB
      have Y : Sy _ _ hv5 [_, _, _, _, _, _, _, _] := Y.appS 5 rfl ([v] : List Int) ow fA_ gA rfl rfl
      refine ⟨fA, fC, sA, sC, by rw [hA1, hB1, List.length_append]; rfl, ?_⟩
      rw [hF]
      refine ⟨c7, by rw [hA1]; exact hc7, ?_⟩
      rw [hB1, List.length_append]
      exact Y.pick [0, 1, 2, 3, 4, 5, 6] rfl
    · -- none: it stands on the first side
      rw [hr] at q
      rw [if_pos q] at hA1
      rw [if_pos q, List.append_nil] at hB1
      intro hv6
      have Y : Sy _ _ hv6 [_, _, _, _, _, _, _, _] := Y.junk _
      clear_value hv6
      rcases hc7 with ⟨rfl, rfl, rfl, e1⟩ | rfl
      · have o1 := ownLess (Y.ownS 3 rfl) (n' := 1) (c' := 1) (by omega) (by omega) (by omega) (by omega)
        have o2 : (eI.l (u :: rest)).take (1 * eI.sz) = [.int .i64 u] := rfl
        rw [o2] at o1
        rw [e1] at hA1 ⊢
        refine ⟨_, o1, allc (Y.nJ 3 7 rfl rfl rfl) alln, by simp, by simp [maxLen], ?_⟩
        intro sA sC hv8 ow fA_ gA gB
        have hc2 := ow.cap
        have fr := gB (by simp)
        have hfresh : ∃ q, sA = some ⟨q, 0, none⟩ ∧ hv6.size ≤ q := by
          rcases gA with ⟨_, e⟩ | e
          · simp only [List.length_singleton] at hc2; omega
          · exact e
        obtain ⟨q2, rfl, hq2⟩ := hfresh
        have Y : Sy _ _ hv8 [_, _, _, _, _, _, _, _, _] := Y.add fr (Ck.sl eI 3 (some ⟨q2, 0, none⟩) 2 sC [u, v]) ⟨ow, rfl⟩ (fun b hb => by simp [Ck.sl, blkOf] at hb; omega) (fun b hb => by simp [Ck.sl] at hb)
        refine ⟨_, sC, oA', oC', by rw [hA1, hB1]; rfl, ?_⟩
        rw [hF]
        refine ⟨_, .inr rfl, ?_⟩
        rw [hB1, hA1]
        exact Y.pick [0, 1, 2, 3, 4, 5, 8] rfl
      · refine ⟨_, Y.ownS 6 rfl, allc (Y.nJ 6 7 rfl rfl rfl) alln, by omega, by simp [maxLen]; omega, ?_⟩
        intro sA sC hv8 ow fA_ gA gB
        have Y : Sy _ _ hv8 [_, _, _, _, _, _, _, _] := Y.appS 6 rfl ([v] : List Int) ow fA_ gA rfl rfl
        refine ⟨sA, sC, oA', oC', by rw [hA1, hB1, List.length_append]; rfl, ?_⟩
        rw [hF]
        refine ⟨_, .inr rfl, ?_⟩
        rw [hB1, hA1, List.length_append]
        exact Y.pick [0, 1, 2, 3, 4, 5, 6] rfl
    · rintro fA2 fL2 fC2 oA2 oL2 oC2 hv9 ⟨_, _, _, _, e, hf⟩
      cases e
      rw [hF] at hf
      obtain ⟨c7', hc7', Y⟩ := hf
      rw [wr (by omega) (by omega)]
      exact ⟨⟨_, _, _, _, _, n + 1, c7', by simp, by omega, rfl, hc7', Y⟩, by dsimp only; omega⟩
  · have hn5' : n = 5 := by simp [hbl] at hlt; omega
    subst hn5'
    have et : rest.take 5 = rest := List.take_of_length_le (by omega)
    clear head
    rw [et] at Y hc7 capB lens
    rw [et]
    refine cnd_ne (fun q => ?_) fun q => ?_
    · exact ⟨_, _, _, _, _, _, _, _, _, _, _, Y.pick [0, 3, 4] rfl, rfl, b1 (by omega)⟩
    have q3 : (sideB es paths u rest).length = 3 := by omega
    have f3 : (sideA es paths u rest).length = 3 := by omega
    rcases hc7 with ⟨_, _, _, e⟩ | rfl
    · rw [e] at f3; simp at f3
    have ndA : (sideA es paths u rest).Nodup := by
      obtain ⟨h1, h2⟩ := List.nodup_cons.1 nd
      exact List.nodup_cons.2 ⟨fun z => h1 (List.mem_filter.1 z).1, h2.filter _⟩
    have ndB : (sideB es paths u rest).Nodup := (List.nodup_cons.1 nd).2.filter _
    have ndP := pairsOf_nodup ndB ndA
    have lenP := pairsOf_len (sideB es paths u rest) (sideA es paths u rest)
    rw [f3, q3] at lenP
    generalize sideA es paths u rest = f at *
    generalize sideB es paths u rest = o at *
    have Y : Sy h M hv [_, _, _, _, _, _, _, _] := Y.nilS eP 35
    refine ⟨fun l h' => ∃ (qA : Option Addr) (qC a : Nat), l = [.slice qA (pairsOf (f.take a) o).length qC, .int .i64 a] ∧ a ≤ 3 ∧
        Sy h M h' [Ck.ob fB 190 [.int .i64 g, .slice eA es.length eC, .slice oA outs.length oC, .slice bA (u :: rest).length bC, .slice pA paths.length pC, .int .i64 k], Ck.vw eP eA es.length eC es, Ck.vrows eI oA outs.length oC oH outs, Ck.sl eI 3 bA (u :: rest).length bC (u :: rest), Ck.rows eI 40 3 pA paths.length pC pH paths, Ck.sl eI 3 oA' o.length oC' o, Ck.sl eI 3 fA f.length fC f, Ck.sl eP 35 qA (pairsOf (f.take a) o).length qC (pairsOf (f.take a) o)],
      fun l _ => (match l with | [_, .int _ x] => ((3 : Int) - x).toNat | _ => 0), ⟨none, 0, 0, rfl, by omega, Y⟩, ?_⟩
    rintro qA qL qC x4 hv10 ⟨_, _, a, e, ha3, Y⟩
    cases e
    refine cnd_dec (fun hlt2 => ?_) fun hlt2 => ?_
    · have ha : a < 3 := by omega
      obtain ⟨b5, hb5, ho5, y5, hy5⟩ := Y.atS 6 rfl (i := ((a : Nat) : Int)) (by omega) (by omega)
      refine ⟨b5, 0, hb5, by omega, hlt2, y5, Y.cellS 6 rfl hb5 (t := 0) hy5 rfl, ?_⟩
      rw [Int.toNat_natCast] at hy5
      have hf1 : pairsOf (f.take (a + 1)) o = pairsOf (f.take a) o ++ o.map fun v => (y5, v) := by
        rw [List.take_add_one, hy5]; exact pairsOf_app _ _ _
      refine ⟨fun l h' => ∃ (qA : Option Addr) (qC c : Nat), l = [.slice qA (pairsOf (f.take a) o ++ (o.take c).map fun v => (y5, v)).length qC, .int .i64 c] ∧ c ≤ 3 ∧
          Sy h M h' [Ck.ob fB 190 [.int .i64 g, .slice eA es.length eC, .slice oA outs.length oC, .slice bA (u :: rest).length bC, .slice pA paths.length pC, .int .i64 k], Ck.vw eP eA es.length eC es, Ck.vrows eI oA outs.length oC oH outs, Ck.sl eI 3 bA (u :: rest).length bC (u :: rest), Ck.rows eI 40 3 pA paths.length pC pH paths, Ck.sl eI 3 oA' o.length oC' o, Ck.sl eI 3 fA f.length fC f, Ck.sl eP 35 qA (pairsOf (f.take a) o ++ (o.take c).map fun v => (y5, v)).length qC (pairsOf (f.take a) o ++ (o.take c).map fun v => (y5, v))],
        fun l _ => (match l with | [_, .int _ x] => ((3 : Int) - x).toNat | _ => 0), ⟨qA, qC, 0, by simp, by omega, by simpa using Y⟩, ?_⟩
      rintro qA2 qL2 qC2 x6 hv11 ⟨_, _, c, e, hc3, Y⟩
      cases e
      refine cnd_dec (fun hlt3 => ?_) fun hlt3 => ?_
      · have hc : c < 3 := by omega
        obtain ⟨b6, hb6, ho6, y6, hy6⟩ := Y.atS 5 rfl (i := ((c : Nat) : Int)) (by omega) (by omega)
        refine ⟨b6, 0, hb6, by omega, hlt3, y6, Y.cellS 5 rfl hb6 (t := 0) hy6 rfl, ?_⟩
        rw [Int.toNat_natCast] at hy6
        intro hv12
        have Y : Sy _ _ hv12 [_, _, _, _, _, _, _, _, _] := Y.junk _
        clear_value hv12
        have hqle : (pairsOf (f.take a) o ++ (o.take c).map fun v => (y5, v)).length ≤ 100 := by
          rw [List.length_append, pairsOf_len, List.length_map, List.length_take, List.length_take, q3, f3]
          have : min a 3 * 3 ≤ 3 * 3 := Nat.mul_le_mul_right _ (by omega)
          omega
        refine ⟨_, Y.ownS 7 rfl, allc (Y.nJ 7 8 rfl rfl rfl) alln, by omega, by simp only [maxLen]; omega, ?_⟩
        intro sA sC hv14 ow fA_ gA gB
        have Y : Sy _ _ hv14 [_, _, _, _, _, _, _, _, _] := Y.appS 7 rfl ([(y5, y6)] : List (Int × Int)) ow fA_ gA rfl rfl
        have ec : (pairsOf (f.take a) o ++ (o.take (c + 1)).map fun v => (y5, v)) = (pairsOf (f.take a) o ++ (o.take c).map fun v => (y5, v)) ++ [(y5, y6)] := by
          rw [List.take_add_one, hy6, List.append_assoc]
          congr 1
          simp
        rw [wr (by omega) (by omega)]
        refine ⟨⟨sA, sC, c + 1, ?_, by omega, ?_⟩, by dsimp only; omega⟩
        · rw [ec, List.length_append (bs := [(y5, y6)])]; rfl
        · rw [ec, List.length_append (bs := [(y5, y6)])]
          exact Y.pick [0, 1, 2, 3, 4, 5, 6, 7] rfl
      · have hce : c = 3 := by omega
        subst hce
        rw [show o.take 3 = o from List.take_of_length_le (by omega), ← hf1] at Y ⊢
        rw [wr (by omega) (by omega)]
        exact ⟨⟨qA2, qC2, a + 1, rfl, by omega, Y⟩, by dsimp only; omega⟩
    · have hae : a = 3 := by omega
      subst hae
      rw [show f.take 3 = f from List.take_of_length_le (by omega)] at Y ⊢
      refine ⟨_, Y.readsS 5 rfl, (Y.ownS 5 rfl).nc, En.l_one _, _, Y.ownS 6 rfl, alln, by omega, by simp only [maxLen]; omega, ?_⟩
      intro sA sC hv16 ow fA_ gA gB
      have Y : Sy _ _ hv16 [_, _, _, _, _, _, _, _] := Y.appS 6 rfl o ow fA_ gA rfl rfl
      refine ⟨fB, 0, rfl, ⟨_, Y.cellO 0 rfl 3 rfl⟩, Y.freeO 0 rfl _, ?_⟩
      intro hv17
      have Y : Sy _ _ hv17 [_, _, _, _, _, _, _, _] := Y.stO 0 rfl 3 _
      clear_value hv17
      refine callX_sy (okSettle (R := fun g2 p2 k2 => R g2 (f ++ o) p2 k2) hl hn hp ndP (by omega) (fun z => b2 q3 z) (fun ix z1 z2 => good q3 ix z1 z2) _ _ _ _ _ _ _ _ _ _ _ _ _ _ _ _ _ _ _ (((Y.turn 6 rfl To.slvw).turn 7 rfl To.slvw).pick [0, 1, 2, 6, 4, 7] rfl).hp) (fun _ _ ⟨_, _, _, _, _, _, _, q, _⟩ => q.fr) alln ?_
      rintro v2 hv18 ⟨pA2, pL2, pC2, pH2, p2, g2, k2, PP, rfl, T⟩
      have Y : Sy _ _ hv18 [_, _, _, _, _, _, _, _] := Y.call2 [0, 4, 1, 2, 3, 5, 6, 7] rfl (A := [_, _]) rfl rfl PP ⟨rfl, ⟨rfl, trivial⟩⟩
      clear PP
      exact ⟨rfl, _, _, _, _, _, _, _, _, _, _, _, Y.pick [0, 6, 1] rfl, rfl, T⟩
end Go.Proofs.Ytmcloipjlihhlaa.N
