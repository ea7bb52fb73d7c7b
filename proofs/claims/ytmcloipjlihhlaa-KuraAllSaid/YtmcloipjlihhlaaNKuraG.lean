/- Package kura, by hand over memory: a path between two nodes, paths that are picked out. Conditions: none. -/
import Derived.Test.YtmcloipjlihhlaaTKura
import Derived.Test.YtmcloipjlihhlaaSKura
import Derived.Test.YtmcloipjlihhlaaNBfs
set_option linter.unusedSimpArgs false
set_option linter.unusedVariables false
namespace Go.Proofs.Ytmcloipjlihhlaa.N
open Go.X Go.Proofs.Ytmcloipjlihhlaa
set_option maxRecDepth 100000

theorem kxor_nat (n : Nat) : n ^^^ 1 = mate n := by
  have h1 : (n ^^^ 1) / 2 = n / 2 := by rw [Nat.xor_div_two]; simp
  have h2 : (n ^^^ 1) % 2 = if n % 2 = 0 then 1 else 0 := by
    have := Nat.xor_mod_two_pow (a := n) (b := 1) (n := 1)
    rw [Nat.pow_one] at this
    rw [this]
    rcases Nat.mod_two_eq_zero_or_one n with q | q
    · rw [q]; rfl
    · rw [q]; rfl
  unfold mate
  split at h2
  · rename_i q; rw [if_pos q]; omega
  · rename_i q; rw [if_neg q]; omega
theorem kxor {n : Nat} (h : n ≤ 1000000000) : bits .xor .i64 (n : Int) 1 = ((mate n : Nat) : Int) := by
  have e1 : (BitVec.ofInt IntKind.i64.bits (n : Int)).toNat = n := by
    have hk : IntKind.i64.bits = 64 := rfl
    rw [BitVec.toNat_ofInt, hk]; omega
  have e2 : (BitVec.ofInt IntKind.i64.bits (1 : Int)).toNat = 1 := by decide
  unfold bits
  simp only [BitVec.toNat_xor]
  rw [e1, e2, kxor_nat, wr]
  · omega
  · unfold mate; split <;> omega
theorem okToF {g k : Int} {es : Es} {outs paths : List (List Int)} {br : List Int} {h : Nat} {R : Int → Prop} (hh : h < 2 * es.length) (hl : es.length ≤ 1000000) (z : R (toH es h)) : Ok159 g es outs br paths k h R := by
  apply ok159
  unfold T159
  rw [half_div h (by omega), half_mod, wr (by omega) (by omega)]
  refine ⟨by decide, by decide, by omega, by omega, by omega, by omega, fun x hx => ?_⟩
  rw [Int.toNat_natCast] at hx
  rw [half_at hh] at hx
  obtain rfl := Option.some.inj hx
  exact z
/-- A path of half-edges. -/
def HIn (es : Es) (p : List Int) : Prop := p ≠ [] ∧ ∀ x ∈ p, ∃ n : Nat, x = n ∧ n < 2 * es.length
theorem mate_to {es : Es} {h : Nat} : toH es (mate h) = fromH es h := by
  unfold toH fromH
  rw [mate_div]
  congr 1
  unfold mate
  split <;> omega
def endsP (es : Es) (p : List Int) : Int × Int := (fromH es (p.getD 0 0).toNat, toH es (p.getD (p.length - 1) 0).toNat)
def hits (es : Es) (paths : List (List Int)) (u v : Int) (k : Nat) : List Nat := (List.range k).filter fun i => decide (endsP es (paths.getD i []) = (u, v))
def betw (es : Es) (paths : List (List Int)) (u v : Int) : Option Nat := match hits es paths u v paths.length with
  | [i] => some i
  | _ => none
theorem hits_succ (es : Es) (paths : List (List Int)) (u v : Int) (k : Nat) : hits es paths u v (k + 1) = hits es paths u v k ++ if endsP es (paths.getD k []) = (u, v) then [k] else [] := by
  unfold hits
  rw [List.range_succ, List.filter_append]
  congr 1
  by_cases q : endsP es (paths.getD k []) = (u, v)
  · rw [if_pos q]
    exact (List.filter_cons_of_pos (p := fun i => decide (endsP es (paths.getD i []) = (u, v))) (decide_eq_true q)).trans rfl
  · rw [if_neg q]
    exact (List.filter_cons_of_neg (p := fun i => decide (endsP es (paths.getD i []) = (u, v))) (by simp only [decide_eq_true_eq]; exact q)).trans rfl
theorem hits_more (es : Es) (paths : List (List Int)) (u v : Int) (k : Nat) : ∀ d, ∃ r, hits es paths u v (k + d) = hits es paths u v k ++ r
  | 0 => ⟨[], by simp⟩
  | d + 1 => by
    obtain ⟨r, e⟩ := hits_more es paths u v k d
    exact ⟨r ++ if endsP es (paths.getD (k + d) []) = (u, v) then [k + d] else [], by rw [← Nat.add_assoc, hits_succ, e, List.append_assoc]⟩
theorem betw_two {es : Es} {paths : List (List Int)} {u v : Int} {k i : Nat} (hk : k < paths.length) (h1 : hits es paths u v k = [i]) (h2 : endsP es (paths.getD k []) = (u, v)) : betw es paths u v = none := by
  have h3 : hits es paths u v (k + 1) = [i, k] := by rw [hits_succ, h1, if_pos h2]; rfl
  obtain ⟨r, e⟩ := hits_more es paths u v (k + 1) (paths.length - (k + 1))
  rw [show k + 1 + (paths.length - (k + 1)) = paths.length by omega, h3] at e
  unfold betw
  rw [e]
  rfl
theorem mem_hits {es : Es} {paths : List (List Int)} {u v : Int} {k i : Nat} (h : i ∈ hits es paths u v k) : i < k ∧ endsP es (paths.getD i []) = (u, v) := by
  unfold hits at h
  rw [List.mem_filter] at h
  exact ⟨List.mem_range.1 h.1, of_decide_eq_true h.2⟩
theorem betw_some {es : Es} {paths : List (List Int)} {u v : Int} {i : Nat} (h : betw es paths u v = some i) : i < paths.length ∧ endsP es (paths.getD i []) = (u, v) := by
  unfold betw at h
  split at h
  · rename_i j e
    obtain rfl := Option.some.inj h
    exact mem_hits (by rw [e]; simp)
  · cases h
/-- What is found, as a slice. -/
def FoundS (H : List RowH) (paths : List (List Int)) (l : List Nat) (A : Option Addr) (L C : Nat) : Prop :=
  (l = [] ∧ A = none ∧ L = 0 ∧ C = 0) ∨ ∃ (i : Nat) (r : RowH) (p : List Int), l = [i] ∧ H[i]? = some r ∧ paths[i]? = some p ∧ A = r.a ∧ L = p.length ∧ C = r.c ∧ Option.isNone r.a = false
theorem cnd_b' {x : Bool} {A B : Prop} (a : x = true → A) (b : x = false → B) : cnd x A B := ⟨a, b⟩
theorem getD_of' {l : List Int} {i : Nat} {x : Int} (h : l[i]? = some x) : l.getD i 0 = x := by simp [List.getD_eq_getElem?_getD, h]
theorem getD_of'' {l : List (List Int)} {i : Nat} {x : List Int} (h : l[i]? = some x) : l.getD i [] = x := by simp [List.getD_eq_getElem?_getD, h]
theorem okBetw {g k u v : Int} {es : Es} {outs paths : List (List Int)} {br : List Int} (hl : es.length ≤ 1000000) (hn : paths.length ≤ 1000000) (hp : ∀ p ∈ paths, HIn es p ∧ p.length ≤ 1000000)
    {h : Heap} {fB fO : Nat} {eA : Option Addr} {eL eC : Nat} {oA : Option Addr} {oL oC : Nat} {oH : List RowH} {bA : Option Addr} {bL bC : Nat} {pA : Option Addr} {pL pC : Nat} {pH : List RowH}
    (H : Hp h [Ck.vob fB fO [.int .i64 g, .slice eA eL eC, .slice oA oL oC, .slice bA bL bC, .slice pA pL pC, .int .i64 k], Ck.vw eP eA eL eC es, Ck.vrows eI oA oL oC oH outs, Ck.vw eI bA bL bC br, Ck.vrows eI pA pL pC pH paths]) :
    CallsH Try.prog 225 #[.pointer (some ⟨fB, fO, none⟩), .int .i64 u, .int .i64 v] h fun w h' => Sy h [] h' [] ∧ ((betw es paths u v = none ∧ w = .slice none 0 0) ∨
      ∃ (i : Nat) (r : RowH) (p : List Int), betw es paths u v = some i ∧ pH[i]? = some r ∧ paths[i]? = some p ∧ w = .slice r.a p.length r.c ∧ Option.isNone r.a = false) := by
  have Y : Sy h [] h _ := Sy.startM H rfl
  obtain rfl := Y.lenV 1 rfl
  obtain rfl := Y.lenW 2 rfl
  obtain rfl := Y.lenV 3 rfl
  obtain rfl := Y.lenW 4 rfl
  apply calls225
  unfold S225
  refine ⟨fB, fO, rfl, _, _, _, Y.cellW 0 rfl 4 rfl, ?_⟩
  refine ⟨fun l h' => ∃ (A : Option Addr) (L C n : Nat), l = [.slice A L C, .int .i64 n] ∧ n ≤ paths.length ∧ FoundS pH paths (hits es paths u v n) A L C ∧ Sy h [] h' [Ck.vob fB fO [.int .i64 g, .slice eA es.length eC, .slice oA outs.length oC, .slice bA br.length bC, .slice pA paths.length pC, .int .i64 k], Ck.vw eP eA es.length eC es, Ck.vrows eI oA outs.length oC oH outs, Ck.vw eI bA br.length bC br, Ck.vrows eI pA paths.length pC pH paths],
    fun l _ => (match l with | [_, .int _ x] => ((paths.length : Int) - x).toNat | _ => 0), ⟨none, 0, 0, 0, rfl, Nat.zero_le _, .inl ⟨rfl, rfl, rfl, rfl⟩, Y⟩, ?_⟩
  rintro A L C _ hv ⟨_, _, _, n, e, hn2, F, Y⟩
  cases e
  refine cnd_dec (fun hlt => ?_) fun hlt => ?_
  · obtain ⟨b2, o2, hb, _, p, hx, r, hr⟩ := Y.atW 4 rfl (i := (n : Int)) (by omega) (by omega)
    refine ⟨b2, o2, hb, by omega, by omega, _, _, _, Y.cellWR 4 rfl hb hr hx, ?_⟩
    rw [Int.toNat_natCast] at hx hr
    obtain ⟨⟨hne, hin⟩, hpl⟩ := hp p (List.mem_of_getElem? hx)
    have hpos : 0 < p.length := List.length_pos_iff.2 hne
    have epn := getD_of'' hx
    obtain ⟨b3, o3, hb3, _, y0, hy0⟩ := Y.atRowW 4 rfl hr hx (i := 0) (by omega) (by omega)
    refine ⟨b3, o3, hb3, by omega, by omega, _, Y.cellRowW 4 rfl hr hx hb3 (t := 0) hy0 rfl, ?_⟩
    obtain ⟨m0, rfl, hm0⟩ := hin y0 (List.mem_of_getElem? hy0)
    rw [kxor (by omega)]
    refine callX_sy (okToF (R := fun r => r = fromH es m0) (mate_lt hm0) hl mate_to _ _ _ _ _ _ _ _ _ _ _ _ _ _ _ _ _ Y.hp) (fun _ _ ⟨_, q, _⟩ => q.fr) alln ?_
    rintro v2 hv2 ⟨r0, PP, rfl, rfl⟩
    have Y : Sy _ _ hv2 _ := Y.gr PP.fr
    clear PP
    refine ⟨_, rfl, ?_⟩
    have e1 : (endsP es p).1 = fromH es m0 := by
      unfold endsP; dsimp only
      rw [getD_of' (i := 0) hy0, Int.toNat_natCast]
    have back : ∀ {hv3 : Heap} {A' : Option Addr} {L' C' : Nat}, FoundS pH paths (hits es paths u v (n + 1)) A' L' C' → Sy h [] hv3 [Ck.vob fB fO [.int .i64 g, .slice eA es.length eC, .slice oA outs.length oC, .slice bA br.length bC, .slice pA paths.length pC, .int .i64 k], Ck.vw eP eA es.length eC es, Ck.vrows eI oA outs.length oC oH outs, Ck.vw eI bA br.length bC br, Ck.vrows eI pA paths.length pC pH paths] →
        (∃ (A : Option Addr) (L C n' : Nat), [Value.slice A' L' C', .int .i64 (IntKind.i64.wrap ((n : Int) + 1))] = [.slice A L C, .int .i64 n'] ∧ n' ≤ paths.length ∧ FoundS pH paths (hits es paths u v n') A L C ∧ Sy h [] hv3 [Ck.vob fB fO [.int .i64 g, .slice eA es.length eC, .slice oA outs.length oC, .slice bA br.length bC, .slice pA paths.length pC, .int .i64 k], Ck.vw eP eA es.length eC es, Ck.vrows eI oA outs.length oC oH outs, Ck.vw eI bA br.length bC br, Ck.vrows eI pA paths.length pC pH paths]) ∧
        ((paths.length : Int) - IntKind.i64.wrap ((n : Int) + 1)).toNat < ((paths.length : Int) - n).toNat := by
      intro hv3 A' L' C' F' Y'
      rw [wr (by omega) (by omega)]
      exact ⟨⟨A', L', C', n + 1, by simp, by omega, F', Y'⟩, by omega⟩
    refine cnd_eq (fun q1 => ?_) fun q1 => ?_
    · have hlast : ((p.length : Int) - 1).toNat = p.length - 1 := by omega
      rw [wr (x := (p.length : Int) - 1) (by omega) (by omega)]
      obtain ⟨b4, o4, hb4, _, y1, hy1⟩ := Y.atRowW 4 rfl hr hx (i := (p.length : Int) - 1) (by omega) (by omega)
      refine ⟨b4, o4, hb4, by omega, by omega, _, Y.cellRowW 4 rfl hr hx hb4 (t := 0) hy1 rfl, ?_⟩
      obtain ⟨m1, rfl, hm1⟩ := hin y1 (List.mem_of_getElem? hy1)
      refine callX_sy (okToF (R := fun r => r = toH es m1) hm1 hl rfl _ _ _ _ _ _ _ _ _ _ _ _ _ _ _ _ _ Y.hp) (fun _ _ ⟨_, q, _⟩ => q.fr) alln ?_
      rintro v3 hv3 ⟨r1, PP, rfl, rfl⟩
      have Y : Sy _ _ hv3 _ := Y.gr PP.fr
      clear PP
      refine ⟨_, rfl, ?_⟩
      have e2 : (endsP es p).2 = toH es m1 := by
        unfold endsP; dsimp only
        rw [← hlast, getD_of' hy1, Int.toNat_natCast]
      have hnn : Option.isNone r.a = false := by rw [hb3]; rfl
      refine ⟨fun l h' => ∃ (A' : Option Addr) (L' C' : Nat), l = [.slice A' L' C'] ∧ FoundS pH paths (hits es paths u v (n + 1)) A' L' C' ∧ Sy h [] h' [Ck.vob fB fO [.int .i64 g, .slice eA es.length eC, .slice oA outs.length oC, .slice bA br.length bC, .slice pA paths.length pC, .int .i64 k], Ck.vw eP eA es.length eC es, Ck.vrows eI oA outs.length oC oH outs, Ck.vw eI bA br.length bC br, Ck.vrows eI pA paths.length pC pH paths], ?_, ?_⟩
      · refine cnd_eq (fun q2 => ?_) fun q2 => ?_
        · have he : endsP es (paths.getD n []) = (u, v) := by rw [epn]; exact Prod.ext (e1.trans q1) (e2.trans q2)
          rcases F with ⟨f1, rfl, rfl, rfl⟩ | ⟨i, r', p', f1, f2, f3, rfl, rfl, rfl, f4⟩
          · refine cnd_not (fun q => by cases q) fun _ => ?_
            refine ⟨_, _, _, rfl, .inr ⟨n, r, p, ?_, hr, hx, rfl, rfl, rfl, hnn⟩, Y⟩
            rw [hits_succ, f1, if_pos he]; rfl
          · refine cnd_not (fun q => ?_) fun q => ?_
            · exact ⟨Y.pick [] rfl, .inl ⟨betw_two (by omega) f1 he, rfl⟩⟩
            · rw [f4] at q; cases q
        · have he : ¬ endsP es (paths.getD n []) = (u, v) := by rw [epn]; exact fun z => q2 (by rw [← e2, z])
          exact ⟨_, _, _, rfl, by rw [hits_succ, if_neg he, List.append_nil]; exact F, Y⟩
      · rintro A' L' C' hv4 ⟨_, _, _, e, F', Y⟩
        cases e
        exact back F' Y
    · have he : ¬ endsP es (paths.getD n []) = (u, v) := by rw [epn]; exact fun z => q1 (by rw [← e1, z])
      exact back (by rw [hits_succ, if_neg he, List.append_nil]; exact F) Y
  · have hnp : n = paths.length := by omega
    subst hnp
    refine ⟨Y.pick [] rfl, ?_⟩
    rcases F with ⟨f1, rfl, rfl, rfl⟩ | ⟨i, r', p', f1, f2, f3, rfl, rfl, rfl, f4⟩
    · exact .inl ⟨by unfold betw; rw [f1], rfl⟩
    · exact .inr ⟨i, r', p', by unfold betw; rw [f1], f2, f3, rfl, f4⟩
def Sel (es : Es) (paths : List (List Int)) (pairs : List (Int × Int)) (ix : List Nat) : Prop :=
  ∀ (j i : Nat) (q : Int × Int), ix[j]? = some i → pairs[j]? = some q → betw es paths q.1 q.2 = some i
theorem Sel.ends {es : Es} {paths : List (List Int)} {pairs : List (Int × Int)} {ix : List Nat} (s : Sel es paths pairs ix) {j i : Nat} {q : Int × Int} (hi : ix[j]? = some i) (hq : pairs[j]? = some q) : i < paths.length ∧ endsP es (paths.getD i []) = q :=
  betw_some (s j i q hi hq)
theorem Sel.nodup {es : Es} {paths : List (List Int)} {pairs : List (Int × Int)} {ix : List Nat} (s : Sel es paths pairs ix) (hl : ix.length ≤ pairs.length) (nd : pairs.Nodup) : ix.Nodup := by
  refine List.pairwise_iff_getElem.2 fun a b ha hb hab e => ?_
  have h1 := s.ends (List.getElem?_eq_getElem ha) (List.getElem?_eq_getElem (show a < pairs.length by omega))
  have h2 := s.ends (List.getElem?_eq_getElem hb) (List.getElem?_eq_getElem (show b < pairs.length by omega))
  rw [e] at h1
  exact List.pairwise_iff_getElem.1 nd a b (by omega) (by omega) hab (h1.2.symm.trans h2.2)
theorem okSettle {g k kind : Int} {es : Es} {outs paths : List (List Int)} {br : List Int} {pairs : List (Int × Int)} {R : Int → List (List Int) → Int → Prop} (hl : es.length ≤ 1000000) (hn : paths.length ≤ 1000000) (hp : ∀ p ∈ paths, HIn es p ∧ p.length ≤ 1000000)
    (nd : pairs.Nodup) (hq : pairs.length ≤ 1000000) (bad : (∃ q ∈ pairs, betw es paths q.1 q.2 = none) → R g paths k) (good : ∀ ix, ix.length = pairs.length → Sel es paths pairs ix → R g (ix.map fun i => paths.getD i []) kind) :
    Ok224 g es outs br paths k pairs kind R := by
  intro h fB eA eL eC oA oL oC oH bA bL bC pA pL pC pH qA qL qC H
  have Y : Sy h (owns [Ck.ob fB 190 [.int .i64 g, .slice eA eL eC, .slice oA oL oC, .slice bA bL bC, .slice pA pL pC, .int .i64 k], Ck.rows eI 40 3 pA pL pC pH paths]) h _ := Sy.startM H rfl
  obtain rfl := Y.lenV 1 rfl
  obtain rfl := Y.lenW 2 rfl
  obtain rfl := Y.lenV 3 rfl
  obtain rfl := Y.lenR 4 rfl
  obtain rfl := Y.lenV 5 rfl
  apply calls224
  unfold S224
  have Y : Sy h _ h [_, _, _, _, _, _, _] := Y.nilS eH 40
  refine ⟨fun l h' => ∃ (A : Option Addr) (L C : Nat) (ix : List Nat), l = [.slice A L C, .int .i64 (ix.length : Nat)] ∧ ix.length ≤ pairs.length ∧ Sel es paths pairs ix ∧
      Sy h (owns [Ck.ob fB 190 [.int .i64 g, .slice eA es.length eC, .slice oA outs.length oC, .slice bA br.length bC, .slice pA paths.length pC, .int .i64 k], Ck.rows eI 40 3 pA paths.length pC pH paths]) h' [Ck.ob fB 190 [.int .i64 g, .slice eA es.length eC, .slice oA outs.length oC, .slice bA br.length bC, .slice pA paths.length pC, .int .i64 k], Ck.vw eP eA es.length eC es, Ck.vrows eI oA outs.length oC oH outs, Ck.vw eI bA br.length bC br, Ck.rows eI 40 3 pA paths.length pC pH paths, Ck.vw eP qA pairs.length qC pairs, Ck.sl eH 40 A L C (ix.map fun i => pH.getD i ⟨none, 0, 0⟩)],
    fun l _ => (match l with | [_, .int _ x] => ((pairs.length : Int) - x).toNat | _ => 0), ⟨none, 0, 0, [], rfl, Nat.zero_le _, fun j i q hj => by simp at hj, Y⟩, ?_⟩
  rintro A L C _ hv ⟨_, _, _, ix, e, hix, hS, Y⟩
  cases e
  obtain rfl := Y.lenS 6 rfl
  refine cnd_dec (fun hlt => ?_) fun hlt => ?_
  · obtain ⟨b, o, hb, _, q, hx⟩ := Y.atV 5 rfl (i := ((ix.length : Nat) : Int)) (by omega) (by omega)
    refine ⟨b, o, hb, by omega, by omega, _, Y.cellV 5 rfl hb (t := 0) hx rfl, _, Y.cellV 5 rfl hb (t := 1) hx rfl, ?_⟩
    rw [Int.toNat_natCast] at hx
    intro hv2 hv3
    have Y : Sy _ _ hv3 [_, _, _, _, _, _, _, _] := (((Y.junk _).stJ 7 rfl _ _).stJ 7 rfl _ _)
    clear_value hv3
    refine callX_sy (okBetw hl hn hp (((Y.turn 0 rfl To.obvob).turn 4 rfl To.rowsv).pick [0, 1, 2, 3, 4] rfl).hp) (fun _ _ ⟨q, _⟩ => q.fr) (allc (fun h => by cases h) alln) ?_
    rintro w hv4 ⟨PP, hw⟩
    have Y : Sy _ _ hv4 [_, _, _, _, _, _, _, _] := Y.gr PP.fr
    clear PP
    rcases hw with ⟨hnone, rfl⟩ | ⟨i, r, p, hi, hr, hpx, rfl, hnn⟩
    · refine ⟨_, _, _, rfl, cnd_b' (fun _ => ?_) fun q => by cases q⟩
      exact ⟨_, _, _, _, _, _, _, Y.pick [0, 4] rfl, rfl, bad ⟨q, List.mem_of_getElem? hx, hnone⟩⟩
    · have hrl : p.length = r.n := Y.rowLenR 4 rfl hr hpx
      rw [hrl]
      refine ⟨_, _, _, rfl, cnd_b' (fun q => by rw [hnn] at q; cases q) fun _ => ?_⟩
      intro hv5
      have Y : Sy _ _ hv5 [_, _, _, _, _, _, _, _, _] := Y.junk _
      clear_value hv5
      have hml : (ix.map fun i => pH.getD i (⟨none, 0, 0⟩ : RowH)).length = ix.length := List.length_map ..
      refine ⟨_, Y.ownS 6 rfl, allc (Y.nJ 6 8 rfl rfl rfl) (allc (Y.nJ 6 7 rfl rfl rfl) alln), by omega, by simp [maxLen]; omega, ?_⟩
      intro sA sC hv7 ow fA gA gB
      have Y : Sy _ _ hv7 [_, _, _, _, _, _, _, _, _] := Y.appS 6 rfl ([r] : List RowH) ow fA gA rfl rfl
      rw [wr (by omega) (by omega)]
      refine ⟨⟨sA, _, sC, ix ++ [i], by rw [List.length_append, List.length_singleton, Int.natCast_add]; rfl, by simp; omega, fun j i' q' hj hq' => ?_, ?_⟩, by dsimp only; omega⟩
      · rcases app_get hj with ⟨rfl, rfl⟩ | ⟨_, hj⟩
        · obtain rfl := Option.some.inj (hx.symm.trans hq')
          exact hi
        · exact hS j i' q' hj hq'
      · have em : ((ix ++ [i]).map fun i => pH.getD i (⟨none, 0, 0⟩ : RowH)) = (ix.map fun i => pH.getD i ⟨none, 0, 0⟩) ++ [r] := by
          rw [List.map_append]
          simp [List.getD_eq_getElem?_getD, hr]
        rw [em]
        exact Y.pick [0, 1, 2, 3, 4, 5, 6] rfl
  · have hml : (ix.map fun i => pH.getD i (⟨none, 0, 0⟩ : RowH)).length = ix.length := List.length_map ..
    have hil : ix.length = pairs.length := by omega
    refine ⟨fB, 0, rfl, ⟨_, Y.cellO 0 rfl 4 rfl⟩, Y.freeO 0 rfl _, ?_⟩
    intro hv8
    have Y : Sy _ _ hv8 [_, _, _, _, _, _, _] := Y.stO 0 rfl 4 _
    clear_value hv8
    refine ⟨fB, 0, rfl, ⟨_, Y.cellO 0 rfl 5 rfl⟩, Y.freeO 0 rfl _, ?_⟩
    intro hv9
    have Y : Sy _ _ hv9 [_, _, _, _, _, _, _] := Y.stO 0 rfl 5 _
    clear_value hv9
    have Y : Sy _ _ hv9 [_, _, _, _, _, _, _] := Y.selR 4 6 rfl rfl (fun i hi => by
      obtain ⟨j, hj⟩ := List.mem_iff_getElem?.1 hi
      have hjl := (List.getElem?_eq_some_iff.1 hj).1
      exact (hS.ends hj (List.getElem?_eq_getElem (show j < pairs.length by omega))).1) (hS.nodup (by omega) nd) rfl
    exact ⟨_, _, _, _, _, _, _, Y.pick [0, 6] rfl, rfl, good ix hil hS⟩
end Go.Proofs.Ytmcloipjlihhlaa.N

/- Package kura, by hand over memory: two sides. Conditions: none. -/
set_option linter.unusedSimpArgs false
set_option linter.unusedVariables false
namespace Go.Proofs.Ytmcloipjlihhlaa.N
open Go.X Go.Proofs.Ytmcloipjlihhlaa
set_option maxRecDepth 100000

/-- A slice of one's own, told shorter and with less room. -/
theorem ownLess {h : Heap} {e sz n c n' c' : Nat} {a : Option Addr} {xs : List Value} (o : Ownd h e sz a n c xs) (h1 : n' ≤ n) (h2 : n' ≤ c') (h3 : c' ≤ c) (h4 : 0 < n') : Ownd h e sz a n' c' (xs.take (n' * sz)) := by
  obtain ⟨q1, q2⟩ := o
  refine ⟨?_, ?_⟩
  · rw [List.length_take, q1]
    exact Nat.min_eq_left (Nat.mul_le_mul_right _ h1)
  · rcases q2 with ⟨_, rfl, rfl⟩ | ⟨g, cur, rfl, g1, g2, g3, g4, g5⟩
    · omega
    · refine .inr ⟨g, cur, rfl, g1, h2, by omega, Nat.le_trans (Nat.mul_le_mul_right _ h3) g4, ?_⟩
      rw [← g5, List.take_take, Nat.min_eq_left (Nat.mul_le_mul_right _ h1)]
def isNo (es : Es) (paths : List (List Int)) (u v : Int) : Bool := (betw es paths u v).isNone
def sideA (es : Es) (paths : List (List Int)) (u : Int) (l : List Int) : List Int := u :: l.filter (isNo es paths u)
def sideB (es : Es) (paths : List (List Int)) (u : Int) (l : List Int) : List Int := l.filter fun v => !isNo es paths u v
theorem sideA_app (es : Es) (paths : List (List Int)) (u v : Int) (l : List Int) : sideA es paths u (l ++ [v]) = sideA es paths u l ++ if isNo es paths u v = true then [v] else [] := by
  unfold sideA
  rw [List.filter_append, List.cons_append]
  cases e : isNo es paths u v with
  | true => simp [e]
  | false => simp [e]
theorem sideB_app (es : Es) (paths : List (List Int)) (u v : Int) (l : List Int) : sideB es paths u (l ++ [v]) = sideB es paths u l ++ if isNo es paths u v = true then [] else [v] := by
  unfold sideB
  rw [List.filter_append]
  cases e : isNo es paths u v with
  | true => simp [e]
  | false => simp [e]
theorem side_len (es : Es) (paths : List (List Int)) (u : Int) : ∀ l : List Int, (sideA es paths u l).length + (sideB es paths u l).length = l.length + 1
  | [] => rfl
  | v :: l => by
    have := side_len es paths u l
    unfold sideA sideB at *
    simp only [List.filter_cons, List.length_cons] at *
    cases isNo es paths u v with
    | true => simp at *; omega
    | false => simp at *; omega
def pairsOf (f o : List Int) : List (Int × Int) := f.flatMap fun u => o.map fun v => (u, v)
theorem pairsOf_app (f o : List Int) (u : Int) : pairsOf (f ++ [u]) o = pairsOf f o ++ o.map fun v => (u, v) := by simp [pairsOf, List.flatMap_append]
theorem pairsOf_len (o : List Int) : ∀ f : List Int, (pairsOf f o).length = f.length * o.length
  | [] => by simp [pairsOf]
  | u :: f => by
    have := pairsOf_len o f
    unfold pairsOf at *
    rw [List.flatMap_cons, List.length_append, this, List.length_map, List.length_cons, Nat.add_mul, Nat.one_mul]; omega
theorem pairsOf_nodup {o : List Int} (ho : o.Nodup) : ∀ {f : List Int}, f.Nodup → (pairsOf f o).Nodup
  | [], _ => by simp [pairsOf]
  | u :: f, hf => by
    obtain ⟨h1, h2⟩ := List.nodup_cons.1 hf
    have ih := pairsOf_nodup ho h2
    unfold pairsOf at *
    rw [List.flatMap_cons]
    refine List.nodup_append.2 ⟨?_, ih, ?_⟩
    · exact List.Pairwise.map _ (fun a b hab e => hab (Prod.mk.inj e).2) ho
    · intro a ha b hb e
      subst e
      obtain ⟨v, _, rfl⟩ := List.mem_map.1 ha
      obtain ⟨u', hu', hb⟩ := List.mem_flatMap.1 hb
      obtain ⟨v', _, e⟩ := List.mem_map.1 hb
      exact h1 ((Prod.mk.inj e).1 ▸ hu')
theorem okParted {g k u : Int} {es : Es} {outs paths : List (List Int)} {rest : List Int} {R : Int → List Int → List (List Int) → Int → Prop} (hl : es.length ≤ 1000000) (hn : paths.length ≤ 1000000) (hp : ∀ p ∈ paths, HIn es p ∧ p.length ≤ 1000000)
    (h5 : rest.length = 5) (nd : (u :: rest).Nodup) (b1 : (sideB es paths u rest).length ≠ 3 → R g (u :: rest) paths k)
    (b2 : (sideB es paths u rest).length = 3 → (∃ q ∈ pairsOf (sideA es paths u rest) (sideB es paths u rest), betw es paths q.1 q.2 = none) → R g (sideA es paths u rest ++ sideB es paths u rest) paths k)
    (good : (sideB es paths u rest).length = 3 → ∀ ix, ix.length = (pairsOf (sideA es paths u rest) (sideB es paths u rest)).length → Sel es paths (pairsOf (sideA es paths u rest) (sideB es paths u rest)) ix → R g (sideA es paths u rest ++ sideB es paths u rest) (ix.map fun i => paths.getD i []) 33) :
    Ok210 g es outs (u :: rest) paths k R := by
  intro h fB eA eL eC oA oL oC oH bA bL bC pA pL pC pH H
  obtain ⟨M, hM⟩ : ∃ M, M = owns [Ck.ob fB 190 [.int .i64 g, .slice eA eL eC, .slice oA oL oC, .slice bA bL bC, .slice pA pL pC, .int .i64 k], Ck.sl eI 3 bA bL bC (u :: rest), Ck.rows eI 40 3 pA pL pC pH paths] := ⟨_, rfl⟩
  rw [← hM]
  have Y : Sy h M h _ := Sy.startM H hM.symm
  clear hM
  obtain rfl := Y.lenV 1 rfl
  obtain rfl := Y.lenW 2 rfl
  obtain rfl := Y.lenS 3 rfl
  obtain rfl := Y.lenR 4 rfl
  have hbl : (u :: rest).length = 6 := by simp [h5]
  have hcap := (Y.ownS 3 rfl).cap
  obtain ⟨gb, hbA⟩ : ∃ gb, bA = some ⟨gb, 0, none⟩ := by
    obtain ⟨gb, _, e, _⟩ := (Y.ownS 3 rfl).at (by omega)
    exact ⟨gb, e⟩
  apply calls210
  unfold S210
  refine ⟨fB, 0, rfl, _, _, _, Y.cellO 0 rfl 3 rfl, by decide, by omega, by decide, by decide, fB, 0, rfl, _, _, _, Y.cellO 0 rfl 3 rfl, by decide, by omega, ?_⟩
  have Y : Sy h _ h [_, _, _, _, _, _] := Y.nilS eI 3
  have Y : Sy h _ h [_, _, _, _, _, _, _] := Y.addNo
  -- the first side is the branch nodes' own head, or a slice of its own
  refine ⟨fun l h' => ∃ (fA : Option Addr) (fL fC : Nat) (oA' : Option Addr) (oC' n : Nat) (c7 : Ck), l = [.slice fA fL fC, .slice oA' (sideB es paths u (rest.take n)).length oC', .int .i64 n] ∧ n ≤ 5 ∧ fL = (sideA es paths u (rest.take n)).length ∧
      ((c7 = Ck.no ∧ fA = bA ∧ fC = 1 ∧ sideA es paths u (rest.take n) = [u]) ∨ c7 = Ck.sl eI 3 fA (sideA es paths u (rest.take n)).length fC (sideA es paths u (rest.take n))) ∧
      Sy h M h' [Ck.ob fB 190 [.int .i64 g, .slice eA es.length eC, .slice oA outs.length oC, .slice bA (u :: rest).length bC, .slice pA paths.length pC, .int .i64 k], Ck.vw eP eA es.length eC es, Ck.vrows eI oA outs.length oC oH outs, Ck.sl eI 3 bA (u :: rest).length bC (u :: rest), Ck.rows eI 40 3 pA paths.length pC pH paths, Ck.sl eI 3 oA' (sideB es paths u (rest.take n)).length oC' (sideB es paths u (rest.take n)), c7],
    fun l _ => (match l with | [_, _, .int _ x] => ((5 : Int) - x).toNat | _ => 0), ⟨bA, 1, 1, none, 0, 0, Ck.no, ?_, by omega, rfl, .inl ⟨rfl, rfl, rfl, rfl⟩, Y⟩, ?_⟩
  · rw [hbA]; rfl
  rintro fA fL fC oA' oL' oC' _ hv ⟨_, _, _, _, _, n, c7, e, hn5, rfl, hc7, Y⟩
  cases e
  have lens := side_len es paths u (rest.take n)
  have ltk : (rest.take n).length = n := by rw [List.length_take]; omega
  -- the head of the first side
  have head : ∃ b4, fA = some ⟨b4, 0, none⟩ ∧ hcell hv b4 (0 + Int.toNat 0 * 1) = some (.int .i64 u) := by
    rcases hc7 with ⟨_, rfl, _, _⟩ | rfl
    · refine ⟨gb, hbA, ?_⟩
      exact Y.cellS 3 rfl hbA (i := 0) (t := 0) (x := u) rfl rfl
    · obtain ⟨b4, _, e4, _⟩ := (Y.ownS 6 rfl).at (by simp [sideA])
      exact ⟨b4, e4, Y.cellS 6 rfl e4 (i := 0) (t := 0) (x := u) rfl rfl⟩
  have capB : (sideA es paths u (rest.take n)).length = 1 ∧ fC = 1 ∧ fA = bA ∧ c7 = Ck.no ∨ c7 = Ck.sl eI 3 fA (sideA es paths u (rest.take n)).length fC (sideA es paths u (rest.take n)) := by
    rcases hc7 with ⟨e1, e2, e3, e4⟩ | e
    · exact .inl ⟨by rw [e4]; rfl, e3, e2, e1⟩
    · exact .inr e
  refine cnd_dec (fun hlt => ?_) fun hlt => ?_
  · have hn4 : n < 5 := by simp [hbl] at hlt; omega
    obtain ⟨v, hvx⟩ : ∃ v, rest[n]? = some v := ⟨_, List.getElem?_eq_getElem (by omega)⟩
    have hA1 : sideA es paths u (rest.take (n + 1)) = sideA es paths u (rest.take n) ++ if isNo es paths u v = true then [v] else [] := by
      rw [← sideA_app]; congr 1; rw [List.take_add_one, hvx]; rfl
    have hB1 : sideB es paths u (rest.take (n + 1)) = sideB es paths u (rest.take n) ++ if isNo es paths u v = true then [] else [v] := by
      rw [← sideB_app]; congr 1; rw [List.take_add_one, hvx]; rfl
    obtain ⟨b4, e4, hc4⟩ := head
    have hxv : hcell hv gb (0 + 1 * 1 + Int.toNat ((n : Nat) : Int) * 1) = some (.int .i64 v) := by
      have := Y.cellS 3 rfl hbA (i := n + 1) (t := 0) (x := v) (by simpa using hvx) rfl
      rw [show 0 + 1 * 1 + Int.toNat ((n : Nat) : Int) * 1 = 0 + (n + 1) * eI.sz + 0 by simp [eI]; omega]
      exact this
    refine ⟨gb, 0 + 1 * 1, ?_, by omega, hlt, v, hxv, b4, 0, e4, by decide, ?_, u, hc4, ?_⟩
    · rw [if_neg (by simp at hcap ⊢; omega), hbA]; rfl
    · have : 0 < (sideA es paths u (rest.take n)).length := by simp [sideA]
      omega
    refine callX_sy (okBetw (u := u) (v := v) hl hn hp ((((Y.turn 0 rfl To.obvob).turn 3 rfl To.slvw).turn 4 rfl To.rowsv).pick [0, 1, 2, 3, 4] rfl).hp) (fun _ _ ⟨q, _⟩ => q.fr) alln ?_
    rintro w hv2 ⟨PP, hw⟩
    have Y : Sy _ _ hv2 [_, _, _, _, _, _, _] := Y.gr PP.fr
    clear PP
    -- behind both ways
    refine Exists.elim (p := fun F : Option Addr → Nat → Option Addr → Nat → Heap → Prop => F = fun fA' fC' oA'' oC'' h' => ∃ c7', ((c7' = Ck.no ∧ fA' = bA ∧ fC' = 1 ∧ sideA es paths u (rest.take (n + 1)) = [u]) ∨ c7' = Ck.sl eI 3 fA' (sideA es paths u (rest.take (n + 1))).length fC' (sideA es paths u (rest.take (n + 1)))) ∧
      Sy h M h' [Ck.ob fB 190 [.int .i64 g, .slice eA es.length eC, .slice oA outs.length oC, .slice bA (u :: rest).length bC, .slice pA paths.length pC, .int .i64 k], Ck.vw eP eA es.length eC es, Ck.vrows eI oA outs.length oC oH outs, Ck.sl eI 3 bA (u :: rest).length bC (u :: rest), Ck.rows eI 40 3 pA paths.length pC pH paths, Ck.sl eI 3 oA'' (sideB es paths u (rest.take (n + 1))).length oC'' (sideB es paths u (rest.take (n + 1))), c7']) ⟨_, rfl⟩ fun F hF => ?_
    obtain ⟨rA, rL, rC, rfl, hr⟩ : ∃ (rA : Option Addr) (rL rC : Nat), w = .slice rA rL rC ∧ Option.isNone rA = isNo es paths u v := by
      unfold isNo
      rcases hw with ⟨e1, e2⟩ | ⟨i, r, p, e1, _, _, e2, e3⟩
      · exact ⟨none, 0, 0, e2, by rw [e1]; rfl⟩
      · exact ⟨r.a, p.length, r.c, e2, by rw [e1, e3]; rfl⟩
    refine ⟨rA, rL, rC, rfl, fun l h' => ∃ fA' fC' oA'' oC'', l = [.slice fA' (sideA es paths u (rest.take (n + 1))).length fC', .slice oA'' (sideB es paths u (rest.take (n + 1))).length oC''] ∧ F fA' fC' oA'' oC'' h', cnd_not (fun q => ?_) (fun q => ?_), ?_⟩
    · -- a path: it stands on the other side
      rw [hr] at q
      rw [if_neg (by rw [q]; decide), List.append_nil] at hA1
      rw [if_neg (by rw [q]; decide)] at hB1
      intro hv3
      have Y : Sy _ _ hv3 [_, _, _, _, _, _, _, _] := Y.junk _
      clear_value hv3
      refine ⟨_, Y.ownS 5 rfl, allc (Y.nJ 5 7 rfl rfl rfl) alln, by omega, by simp [maxLen]; omega, ?_⟩
      intro sA sC hv5 ow fA_ gA gB
      have Y : Sy _ _ hv5 [_, _, _, _, _, _, _, _] := Y.appS 5 rfl ([v] : List Int) ow fA_ gA rfl rfl
      refine ⟨fA, fC, sA, sC, by rw [hA1, hB1, List.length_append]; rfl, ?_⟩
      rw [hF]
      refine ⟨c7, by rw [hA1]; exact hc7, ?_⟩
      rw [hB1, List.length_append]
      exact Y.pick [0, 1, 2, 3, 4, 5, 6] rfl
    · -- none: it stands on the first side
      rw [hr] at q
      rw [if_pos q] at hA1
      rw [if_pos q, List.append_nil] at hB1
      intro hv6
      have Y : Sy _ _ hv6 [_, _, _, _, _, _, _, _] := Y.junk _
      clear_value hv6
      rcases hc7 with ⟨rfl, rfl, rfl, e1⟩ | rfl
      · have o1 := ownLess (Y.ownS 3 rfl) (n' := 1) (c' := 1) (by omega) (by omega) (by omega) (by omega)
        have o2 : (eI.l (u :: rest)).take (1 * eI.sz) = [.int .i64 u] := rfl
        rw [o2] at o1
        rw [e1] at hA1 ⊢
        refine ⟨_, o1, allc (Y.nJ 3 7 rfl rfl rfl) alln, by simp, by simp [maxLen], ?_⟩
        intro sA sC hv8 ow fA_ gA gB
        have hc2 := ow.cap
        have fr := gB (by simp)
        have hfresh : ∃ q, sA = some ⟨q, 0, none⟩ ∧ hv6.size ≤ q := by
          rcases gA with ⟨_, e⟩ | e
          · simp only [List.length_singleton] at hc2; omega
          · exact e
        obtain ⟨q2, rfl, hq2⟩ := hfresh
        have Y : Sy _ _ hv8 [_, _, _, _, _, _, _, _, _] := Y.add fr (Ck.sl eI 3 (some ⟨q2, 0, none⟩) 2 sC [u, v]) ⟨ow, rfl⟩ (fun b hb => by simp [Ck.sl, blkOf] at hb; omega) (fun b hb => by simp [Ck.sl] at hb)
        refine ⟨_, sC, oA', oC', by rw [hA1, hB1]; rfl, ?_⟩
        rw [hF]
        refine ⟨_, .inr rfl, ?_⟩
        rw [hB1, hA1]
        exact Y.pick [0, 1, 2, 3, 4, 5, 8] rfl
      · refine ⟨_, Y.ownS 6 rfl, allc (Y.nJ 6 7 rfl rfl rfl) alln, by omega, by simp [maxLen]; omega, ?_⟩
        intro sA sC hv8 ow fA_ gA gB
        have Y : Sy _ _ hv8 [_, _, _, _, _, _, _, _] := Y.appS 6 rfl ([v] : List Int) ow fA_ gA rfl rfl
        refine ⟨sA, sC, oA', oC', by rw [hA1, hB1, List.length_append]; rfl, ?_⟩
        rw [hF]
        refine ⟨_, .inr rfl, ?_⟩
        rw [hB1, hA1, List.length_append]
        exact Y.pick [0, 1, 2, 3, 4, 5, 6] rfl
    · rintro fA2 fL2 fC2 oA2 oL2 oC2 hv9 ⟨_, _, _, _, e, hf⟩
      cases e
      rw [hF] at hf
      obtain ⟨c7', hc7', Y⟩ := hf
      rw [wr (by omega) (by omega)]
      exact ⟨⟨_, _, _, _, _, n + 1, c7', by simp, by omega, rfl, hc7', Y⟩, by dsimp only; omega⟩
  · have hn5' : n = 5 := by simp [hbl] at hlt; omega
    subst hn5'
    have et : rest.take 5 = rest := List.take_of_length_le (by omega)
    clear head
    rw [et] at Y hc7 capB lens
    rw [et]
    refine cnd_ne (fun q => ?_) fun q => ?_
    · exact ⟨_, _, _, _, _, _, _, _, _, _, _, Y.pick [0, 3, 4] rfl, rfl, b1 (by omega)⟩
    have q3 : (sideB es paths u rest).length = 3 := by omega
    have f3 : (sideA es paths u rest).length = 3 := by omega
    rcases hc7 with ⟨_, _, _, e⟩ | rfl
    · rw [e] at f3; simp at f3
    have ndA : (sideA es paths u rest).Nodup := by
      obtain ⟨h1, h2⟩ := List.nodup_cons.1 nd
      exact List.nodup_cons.2 ⟨fun z => h1 (List.mem_filter.1 z).1, h2.filter _⟩
    have ndB : (sideB es paths u rest).Nodup := (List.nodup_cons.1 nd).2.filter _
    have ndP := pairsOf_nodup ndB ndA
    have lenP := pairsOf_len (sideB es paths u rest) (sideA es paths u rest)
    rw [f3, q3] at lenP
    generalize sideA es paths u rest = f at *
    generalize sideB es paths u rest = o at *
    have Y : Sy h M hv [_, _, _, _, _, _, _, _] := Y.nilS eP 35
    refine ⟨fun l h' => ∃ (qA : Option Addr) (qC a : Nat), l = [.slice qA (pairsOf (f.take a) o).length qC, .int .i64 a] ∧ a ≤ 3 ∧
        Sy h M h' [Ck.ob fB 190 [.int .i64 g, .slice eA es.length eC, .slice oA outs.length oC, .slice bA (u :: rest).length bC, .slice pA paths.length pC, .int .i64 k], Ck.vw eP eA es.length eC es, Ck.vrows eI oA outs.length oC oH outs, Ck.sl eI 3 bA (u :: rest).length bC (u :: rest), Ck.rows eI 40 3 pA paths.length pC pH paths, Ck.sl eI 3 oA' o.length oC' o, Ck.sl eI 3 fA f.length fC f, Ck.sl eP 35 qA (pairsOf (f.take a) o).length qC (pairsOf (f.take a) o)],
      fun l _ => (match l with | [_, .int _ x] => ((3 : Int) - x).toNat | _ => 0), ⟨none, 0, 0, rfl, by omega, Y⟩, ?_⟩
    rintro qA qL qC x4 hv10 ⟨_, _, a, e, ha3, Y⟩
    cases e
    refine cnd_dec (fun hlt2 => ?_) fun hlt2 => ?_
    · have ha : a < 3 := by omega
      obtain ⟨b5, hb5, ho5, y5, hy5⟩ := Y.atS 6 rfl (i := ((a : Nat) : Int)) (by omega) (by omega)
      refine ⟨b5, 0, hb5, by omega, hlt2, y5, Y.cellS 6 rfl hb5 (t := 0) hy5 rfl, ?_⟩
      rw [Int.toNat_natCast] at hy5
      have hf1 : pairsOf (f.take (a + 1)) o = pairsOf (f.take a) o ++ o.map fun v => (y5, v) := by
        rw [List.take_add_one, hy5]; exact pairsOf_app _ _ _
      refine ⟨fun l h' => ∃ (qA : Option Addr) (qC c : Nat), l = [.slice qA (pairsOf (f.take a) o ++ (o.take c).map fun v => (y5, v)).length qC, .int .i64 c] ∧ c ≤ 3 ∧
          Sy h M h' [Ck.ob fB 190 [.int .i64 g, .slice eA es.length eC, .slice oA outs.length oC, .slice bA (u :: rest).length bC, .slice pA paths.length pC, .int .i64 k], Ck.vw eP eA es.length eC es, Ck.vrows eI oA outs.length oC oH outs, Ck.sl eI 3 bA (u :: rest).length bC (u :: rest), Ck.rows eI 40 3 pA paths.length pC pH paths, Ck.sl eI 3 oA' o.length oC' o, Ck.sl eI 3 fA f.length fC f, Ck.sl eP 35 qA (pairsOf (f.take a) o ++ (o.take c).map fun v => (y5, v)).length qC (pairsOf (f.take a) o ++ (o.take c).map fun v => (y5, v))],
        fun l _ => (match l with | [_, .int _ x] => ((3 : Int) - x).toNat | _ => 0), ⟨qA, qC, 0, by simp, by omega, by simpa using Y⟩, ?_⟩
      rintro qA2 qL2 qC2 x6 hv11 ⟨_, _, c, e, hc3, Y⟩
      cases e
      refine cnd_dec (fun hlt3 => ?_) fun hlt3 => ?_
      · have hc : c < 3 := by omega
        obtain ⟨b6, hb6, ho6, y6, hy6⟩ := Y.atS 5 rfl (i := ((c : Nat) : Int)) (by omega) (by omega)
        refine ⟨b6, 0, hb6, by omega, hlt3, y6, Y.cellS 5 rfl hb6 (t := 0) hy6 rfl, ?_⟩
        rw [Int.toNat_natCast] at hy6
        intro hv12
        have Y : Sy _ _ hv12 [_, _, _, _, _, _, _, _, _] := Y.junk _
        clear_value hv12
        have hqle : (pairsOf (f.take a) o ++ (o.take c).map fun v => (y5, v)).length ≤ 100 := by
          rw [List.length_append, pairsOf_len, List.length_map, List.length_take, List.length_take, q3, f3]
          have : min a 3 * 3 ≤ 3 * 3 := Nat.mul_le_mul_right _ (by omega)
          omega
        refine ⟨_, Y.ownS 7 rfl, allc (Y.nJ 7 8 rfl rfl rfl) alln, by omega, by simp only [maxLen]; omega, ?_⟩
        intro sA sC hv14 ow fA_ gA gB
        have Y : Sy _ _ hv14 [_, _, _, _, _, _, _, _, _] := Y.appS 7 rfl ([(y5, y6)] : List (Int × Int)) ow fA_ gA rfl rfl
        have ec : (pairsOf (f.take a) o ++ (o.take (c + 1)).map fun v => (y5, v)) = (pairsOf (f.take a) o ++ (o.take c).map fun v => (y5, v)) ++ [(y5, y6)] := by
          rw [List.take_add_one, hy6, List.append_assoc]
          congr 1
          simp
        rw [wr (by omega) (by omega)]
        refine ⟨⟨sA, sC, c + 1, ?_, by omega, ?_⟩, by dsimp only; omega⟩
        · rw [ec, List.length_append (bs := [(y5, y6)])]; rfl
        · rw [ec, List.length_append (bs := [(y5, y6)])]
          exact Y.pick [0, 1, 2, 3, 4, 5, 6, 7] rfl
      · have hce : c = 3 := by omega
        subst hce
        rw [show o.take 3 = o from List.take_of_length_le (by omega), ← hf1] at Y ⊢
        rw [wr (by omega) (by omega)]
        exact ⟨⟨qA2, qC2, a + 1, rfl, by omega, Y⟩, by dsimp only; omega⟩
    · have hae : a = 3 := by omega
      subst hae
      rw [show f.take 3 = f from List.take_of_length_le (by omega)] at Y ⊢
      refine ⟨_, Y.readsS 5 rfl, (Y.ownS 5 rfl).nc, En.l_one _, _, Y.ownS 6 rfl, alln, by omega, by simp only [maxLen]; omega, ?_⟩
      intro sA sC hv16 ow fA_ gA gB
      have Y : Sy _ _ hv16 [_, _, _, _, _, _, _, _] := Y.appS 6 rfl o ow fA_ gA rfl rfl
      refine ⟨fB, 0, rfl, ⟨_, Y.cellO 0 rfl 3 rfl⟩, Y.freeO 0 rfl _, ?_⟩
      intro hv17
      have Y : Sy _ _ hv17 [_, _, _, _, _, _, _, _] := Y.stO 0 rfl 3 _
      clear_value hv17
      refine callX_sy (okSettle (R := fun g2 p2 k2 => R g2 (f ++ o) p2 k2) hl hn hp ndP (by omega) (fun z => b2 q3 z) (fun ix z1 z2 => good q3 ix z1 z2) _ _ _ _ _ _ _ _ _ _ _ _ _ _ _ _ _ _ _ (((Y.turn 6 rfl To.slvw).turn 7 rfl To.slvw).pick [0, 1, 2, 6, 4, 7] rfl).hp) (fun _ _ ⟨_, _, _, _, _, _, _, q, _⟩ => q.fr) alln ?_
      rintro v2 hv18 ⟨pA2, pL2, pC2, pH2, p2, g2, k2, PP, rfl, T⟩
      have Y : Sy _ _ hv18 [_, _, _, _, _, _, _, _] := Y.call2 [0, 4, 1, 2, 3, 5, 6, 7] rfl (A := [_, _]) rfl rfl PP ⟨rfl, ⟨rfl, trivial⟩⟩
      clear PP
      exact ⟨rfl, _, _, _, _, _, _, _, _, _, _, _, Y.pick [0, 6, 1] rfl, rfl, T⟩
end Go.Proofs.Ytmcloipjlihhlaa.N

/- Package kura: which edges may be chosen, the half-edges of each node, branch nodes, ways. Conditions: none. -/
set_option linter.unusedSimpArgs false
set_option linter.unusedVariables false
namespace Go.Proofs.Ytmcloipjlihhlaa.N
open Go.X Go.Proofs.Ytmcloipjlihhlaa
set_option maxRecDepth 100000

def ChosenK (n : Int) (l : List Int) : Prop := (∀ x ∈ l, 0 ≤ x ∧ x < n) ∧ l.Nodup
theorem okChosenK {l : List Int} {n : Int} {R : Int → Prop} (hl : l.length ≤ 1000000) (n0 : 0 ≤ n) (n1 : n ≤ 1000000) (bad : ¬ ChosenK n l → R 2 ∧ R 18) (good : ChosenK n l → R 0) : Ok223 l n R := by
  apply ok223
  unfold T223
  refine ⟨n0, by omega, fun x s => ∃ k : Nat, x = k ∧ k ≤ l.length ∧ s.length = n.toNat ∧ (∀ y ∈ l.take k, 0 ≤ y ∧ y < n) ∧ (l.take k).Nodup ∧ ∀ i : Nat, s.getD i false = true ↔ (i : Int) ∈ l.take k, fun x _ => ((l.length : Int) - x).toNat, ⟨0, rfl, Nat.zero_le _, by simp, by simp, by simp, fun i => by simp [List.getD_eq_getElem?_getD, List.getElem?_replicate]; split <;> simp⟩, ?_⟩
  rintro _ s ⟨k, rfl, hk, hs, hr, nd, hm⟩
  refine cnd_dec (fun hlt => ⟨by omega, hlt, fun x hx => ?_⟩) fun hlt => ?_
  · rw [Int.toNat_natCast] at hx
    have xm := List.mem_of_getElem? hx
    refine cnd_dec (fun q => (bad fun c => by have := c.1 x xm; omega).1) fun q1 => cnd_dec (fun q => (bad fun c => by have := c.1 x xm; omega).1) fun q2 => ⟨by omega, by omega, fun y hy => ?_⟩
    have hy' : s.getD x.toNat false = y := by simp [List.getD_eq_getElem?_getD, hy]
    have hmx := hm x.toNat
    rw [hy', Int.toNat_of_nonneg (by omega)] at hmx
    have etk : l.take (k + 1) = l.take k ++ [x] := by rw [List.take_add_one, hx]; rfl
    refine cnd_b' (fun q => (bad fun c => ?_).2) fun q => ?_
    · have h1 := hmx.1 q
      have nd2 : (l.take (k + 1)).Nodup := c.2.sublist (List.take_sublist _ _)
      rw [etk] at nd2
      exact (List.nodup_append.1 nd2).2.2 x h1 x (by simp) rfl
    · have hnm : x ∉ l.take k := fun z => by rw [hmx.2 z] at q; cases q
      rw [wr (by omega) (by omega)]
      refine ⟨⟨k + 1, by simp, by omega, by simpa using hs, ?_, ?_, fun i => ?_⟩, by dsimp only; omega⟩
      · rw [etk]
        intro y' hy'
        rcases List.mem_append.1 hy' with hy' | hy'
        · exact hr y' hy'
        · rcases List.mem_singleton.1 hy' with rfl; omega
      · rw [etk]
        refine List.nodup_append.2 ⟨nd, by simp, fun a ha b hb e => ?_⟩
        rcases List.mem_singleton.1 hb with rfl
        exact hnm (e ▸ ha)
      · rw [etk, List.mem_append, List.mem_singleton, ← hm i]
        by_cases e : i = x.toNat
        · subst e
          rw [List.getD_eq_getElem?_getD, List.getElem?_set_self (by omega), Int.toNat_of_nonneg (by omega)]
          simp
        · rw [List.getD_eq_getElem?_getD, List.getElem?_set_ne (fun z => e z.symm), ← List.getD_eq_getElem?_getD]
          constructor
          · exact fun z => .inl z
          · rintro (z | z)
            · exact z
            · omega
  · have hkl : l.take k = l := List.take_of_length_le (by omega)
    rw [hkl] at hr nd
    exact good ⟨hr, nd⟩
def subK (es : Es) (keep : List Int) : Es := keep.map fun i => es.getD i.toNat (0, 0)
theorem okSubK {g : Int} {es : Es} {l : List Int} {R : Int → Es → Int → Prop} (hl : l.length ≤ 1000000) (b0 : mayB g es = false → R 0 [] 1) (bad : mayB g es = true → ¬ ChosenK es.length l → R 0 [] 2 ∧ R 0 [] 18)
    (good : mayB g es = true → ChosenK es.length l → R g (subK es l) 0) : Ok206 g es l R := by
  apply ok206
  unfold T206
  refine okMay (cnd_not (fun q => b0 q) fun q => ?_)
  have m := mayN q
  have mm := m.m
  refine okChosenK hl (by omega) (by omega) (fun c => ⟨cnd_ne (fun _ => (bad q c).1) (fun z => absurd z (by decide)), cnd_ne (fun _ => (bad q c).2) (fun z => absurd z (by decide))⟩) fun c => cnd_ne (fun z => absurd rfl z) fun _ => ?_
  refine ⟨fun i a b => ∃ k : Nat, i = k ∧ k ≤ l.length ∧ a = g ∧ b = subK es (l.take k), fun i _ _ => ((l.length : Int) - i).toNat, ⟨0, rfl, Nat.zero_le _, rfl, rfl⟩, ?_⟩
  rintro _ _ _ ⟨k, rfl, hk, rfl, rfl⟩
  refine cnd_dec (fun hlt => ⟨by omega, hlt, fun x hx => ?_⟩) fun hlt => ?_
  · rw [Int.toNat_natCast] at hx
    have hxr := c.1 x (List.mem_of_getElem? hx)
    refine ⟨hxr.1, hxr.2, fun y hy => ⟨by simp [subK]; omega, ?_⟩⟩
    rw [wr (by omega) (by omega)]
    refine ⟨⟨k + 1, by simp, by omega, rfl, ?_⟩, by dsimp only; omega⟩
    unfold N.subK
    rw [List.take_add_one, hx, List.map_append]
    simp [List.getD, hy]
  · have : k = l.length := by omega
    subst this
    rw [List.take_length]; exact good q c
theorem okFaultyK {g : Int} {es : Es} {l : List Int} {R : Int → Prop} (hl : l.length ≤ 1000000) (b0 : mayB g es = false → R 1) (bad : mayB g es = true → ¬ ChosenK es.length l → R 2 ∧ R 18) (good : mayB g es = true → ChosenK es.length l → R 0) : Ok156 g es l R := by
  apply ok156
  unfold T156
  exact okMay (cnd_not (fun q => b0 q) fun _ => okSubK hl b0 bad good)
def halfOf (es : Es) (e v : Int) : List Int := (if (es.getD e.toNat (0, 0)).1 = v then [2 * e] else []) ++ (if (es.getD e.toNat (0, 0)).2 = v then [2 * e + 1] else [])
def outF (es : Es) (sel : List Int) (v : Int) : List Int := sel.flatMap fun e => halfOf es e v
def outsF (g : Int) (es : Es) (sel : List Int) : List (List Int) := (List.range g.toNat).map fun v : Nat => outF es sel (v : Int)
theorem outsF_len (g : Int) (es : Es) (sel : List Int) : (outsF g es sel).length = g.toNat := by simp [outsF]
theorem outsF_get {g v : Int} {es : Es} {sel : List Int} (h0 : 0 ≤ v) (h1 : v < g) : (outsF g es sel)[v.toNat]? = some (outF es sel v) := by
  unfold outsF
  rw [List.getElem?_map, List.getElem?_range (by omega)]
  simp [Int.toNat_of_nonneg h0]
theorem map_set {n i : Nat} {f : Nat → List Int} {a : Int} (hi : i < n) : ((List.range n).map f).set i (f i ++ [a]) = (List.range n).map fun v => f v ++ if i = v then [a] else [] := by
  apply List.ext_getElem?
  intro j
  rw [List.getElem?_set, List.length_map, List.length_range, List.getElem?_map, List.getElem?_map]
  by_cases h : i = j
  · subst h
    rw [if_pos rfl, if_pos hi, List.getElem?_range hi]
    simp
  · rw [if_neg h]
    by_cases hj : j < n
    · rw [List.getElem?_range hj]; simp [h]
    · rw [List.getElem?_eq_none (by simpa using hj)]; rfl
def brP (l : List Int) : Bool := decide (l.length ≠ 0) && decide (l.length ≠ 2)
def brL (outs : List (List Int)) (n : Nat) : List Int := ((List.range n).filter fun v => brP (outs.getD v [])).map fun v : Nat => (v : Int)
structure BrOK (outs : List (List Int)) (d : Int) (b : List Int) : Prop where
  shape : (d = 4 ∧ b.length = 5) ∨ (d = 3 ∧ b.length = 6)
  all : ∀ (v : Nat) (l : List Int), outs[v]? = some l → brP l = true → (l.length : Int) = d
  eq : b = brL outs outs.length
theorem brP_iff {l : List Int} : brP l = true ↔ l.length ≠ 0 ∧ l.length ≠ 2 := by simp [brP]
theorem brL_succ {outs : List (List Int)} {n : Nat} {l : List Int} (h : outs[n]? = some l) : brL outs (n + 1) = brL outs n ++ if brP l = true then [(n : Int)] else [] := by
  unfold brL
  rw [List.range_succ, List.filter_append, List.map_append]
  congr 1
  have e := getD_of'' h
  cases q : brP l with
  | true => rw [List.filter_cons_of_pos (by rw [e]; exact q)]; rfl
  | false => rw [List.filter_cons_of_neg (by rw [e, q]; decide)]; rfl
theorem brL_len (outs : List (List Int)) (n : Nat) : (brL outs n).length ≤ n := by
  unfold brL
  rw [List.length_map]
  exact Nat.le_trans (List.length_filter_le _ _) (by simp)
theorem okBr {g k : Int} {es : Es} {outs paths : List (List Int)} {R : Int → List Int → Int → Int → Bool → Prop} (hn : outs.length ≤ 100000) (hl : ∀ l ∈ outs, l.length ≤ 1000000) (bad : (¬ ∃ d b, BrOK outs d b) → ∀ b d, R g b k d false) (good : ∀ d b, BrOK outs d b → R g b k d true) :
    Ok207 g es outs [] paths k R := by
  apply ok207
  unfold T207
  refine ⟨fun d x b => ∃ n : Nat, x = n ∧ n ≤ outs.length ∧ b = brL outs n ∧ (d = 0 ∨ d = 3 ∨ d = 4) ∧ (∀ (v : Nat) (l : List Int), v < n → outs[v]? = some l → brP l = true → (l.length : Int) = d) ∧ (d ≠ 0 → ∃ (v : Nat) (l : List Int), v < n ∧ outs[v]? = some l ∧ brP l = true),
    fun _ x _ => ((outs.length : Int) - x).toNat, ⟨0, rfl, Nat.zero_le _, rfl, .inl rfl, fun v l h => by omega, fun h => absurd rfl h⟩, ?_⟩
  rintro d _ _ ⟨n, rfl, hn2, rfl, hd, hall, hwit⟩
  refine cnd_dec (fun hlt => ?_) fun hlt => ?_
  · refine ⟨fun d' b' => (d' = 0 ∨ d' = 3 ∨ d' = 4) ∧ b' = brL outs (n + 1) ∧ (∀ (v : Nat) (l : List Int), v < n + 1 → outs[v]? = some l → brP l = true → (l.length : Int) = d') ∧ (d' ≠ 0 → ∃ (v : Nat) (l : List Int), v < n + 1 ∧ outs[v]? = some l ∧ brP l = true),
      ⟨by omega, hlt, fun l hx => ?_⟩, ?_⟩
    · rw [Int.toNat_natCast] at hx
      have hll := hl l (List.mem_of_getElem? hx)
      have hb := brL_succ hx
      have step : brP l = false → (d = 0 ∨ d = 3 ∨ d = 4) ∧ brL outs n = brL outs (n + 1) ∧ (∀ (v : Nat) (l : List Int), v < n + 1 → outs[v]? = some l → brP l = true → (l.length : Int) = d) ∧ (d ≠ 0 → ∃ (v : Nat) (l : List Int), v < n + 1 ∧ outs[v]? = some l ∧ brP l = true) := by
        intro q
        refine ⟨hd, by rw [hb, q]; simp, fun v l' hv hl' hp => ?_, fun z => ?_⟩
        · by_cases e : v = n
          · subst e
            rw [hx] at hl'
            rw [← Option.some.inj hl', q] at hp; cases hp
          · exact hall v l' (by omega) hl' hp
        · obtain ⟨v, l', h1, h2, h3⟩ := hwit z
          exact ⟨v, l', by omega, h2, h3⟩
      have isb : l.length ≠ 0 → l.length ≠ 2 → brP l = true := fun a b => brP_iff.2 ⟨a, b⟩
      have fail : (∀ dd bb, BrOK outs dd bb → False) → ∀ b d, R g b k d false := fun h => bad fun ⟨dd, bb, z⟩ => h dd bb z
      have new : ∀ {d'}, d' = (l.length : Int) → (d' = 3 ∨ d' = 4) → (∀ (v : Nat) (l' : List Int), v < n → outs[v]? = some l' → brP l' = true → (l'.length : Int) = d') → brP l = true →
          (d' = 0 ∨ d' = 3 ∨ d' = 4) ∧ brL outs n ++ [(n : Int)] = brL outs (n + 1) ∧ (∀ (v : Nat) (l : List Int), v < n + 1 → outs[v]? = some l → brP l = true → (l.length : Int) = d') ∧ (d' ≠ 0 → ∃ (v : Nat) (l : List Int), v < n + 1 ∧ outs[v]? = some l ∧ brP l = true) := by
        intro d' e1 e2 e3 q
        refine ⟨.inr e2, by rw [hb, if_pos q], fun v l' hv hl' hp => ?_, fun _ => ⟨n, l, by omega, hx, q⟩⟩
        by_cases e : v = n
        · subst e
          rw [hx] at hl'
          rw [← Option.some.inj hl', e1]
        · exact e3 v l' (by omega) hl' hp
      have hbl := brL_len outs n
      refine cnd_eq (fun q => step (by rw [← Bool.not_eq_true]; intro z; have := brP_iff.1 z; omega)) fun q0 => ⟨fun d' b' => (d' = 0 ∨ d' = 3 ∨ d' = 4) ∧ b' = brL outs (n + 1) ∧ (∀ (v : Nat) (l : List Int), v < n + 1 → outs[v]? = some l → brP l = true → (l.length : Int) = d') ∧ (d' ≠ 0 → ∃ (v : Nat) (l : List Int), v < n + 1 ∧ outs[v]? = some l ∧ brP l = true), ?_, fun _ _ z => z⟩
      refine cnd_eq (fun q => step (by rw [← Bool.not_eq_true]; intro z; have := brP_iff.1 z; omega)) fun q2 => cnd_dec (fun q => ?_) fun q4 => cnd_eq (fun q => ?_) fun q1 => cnd_ne (fun qd => cnd_ne (fun q => ?_) fun q => ?_) fun qd => ?_
      · refine fail (fun dd bb z => ?_) _ _
        have := z.all n l hx (isb (by omega) (by omega))
        rcases z.shape with ⟨e, _⟩ | ⟨e, _⟩ <;> omega
      · refine fail (fun dd bb z => ?_) _ _
        have := z.all n l hx (isb (by omega) (by omega))
        rcases z.shape with ⟨e, _⟩ | ⟨e, _⟩ <;> omega
      · refine fail (fun dd bb z => ?_) _ _
        have h1 := z.all n l hx (isb (by omega) (by omega))
        obtain ⟨v, l', hv, hl', hp⟩ := hwit qd
        have h2 := z.all v l' hl' hp
        have h3 := hall v l' hv hl' hp
        omega
      · refine ⟨by omega, ?_⟩
        rw [q]
        exact new q.symm (by omega) hall (isb (by omega) (by omega))
      · refine ⟨by omega, new (d' := (l.length : Int)) rfl (by omega) (fun v l' hv hl' hp => ?_) (isb (by omega) (by omega))⟩
        have h3 := hall v l' hv hl' hp
        have := brP_iff.1 hp
        omega
    · rintro d' _ ⟨h1, rfl, h3, h4⟩
      rw [wr (by omega) (by omega)]
      exact ⟨⟨n + 1, by simp, by omega, rfl, h1, h3, h4⟩, by dsimp only; omega⟩
  · have hne : n = outs.length := by omega
    subst hne
    have ok : ∀ {dd : Int}, dd = d → ((d = 4 ∧ (brL outs outs.length).length = 5) ∨ (d = 3 ∧ (brL outs outs.length).length = 6)) → R g (brL outs outs.length) k d true := fun _ z =>
      good d _ ⟨z, fun v l hv hp => hall v l (List.getElem?_eq_some_iff.1 hv).1 hv hp, rfl⟩
    have no : ¬ ((d = 4 ∧ (brL outs outs.length).length = 5) ∨ (d = 3 ∧ (brL outs outs.length).length = 6)) → R g (brL outs outs.length) k d false := fun z =>
      bad (fun ⟨dd, bb, y⟩ => z (by
        have y2 := y.eq
        subst y2
        by_cases h0 : d = 0
        · -- none is a branch node
          exfalso
          have hemp : brL outs outs.length = [] := by
            unfold brL
            rw [List.filter_eq_nil_iff.2, List.map_nil]
            intro v hv hp
            have hvl := List.mem_range.1 hv
            have e := List.getElem?_eq_getElem hvl
            rw [getD_of'' e] at hp
            have := hall v _ hvl e hp
            have := brP_iff.1 hp
            omega
          rcases y.shape with ⟨_, e⟩ | ⟨_, e⟩ <;> rw [hemp] at e <;> simp at e
        · obtain ⟨v, l', hv, hl', hp⟩ := hwit h0
          have h2 := y.all v l' hl' hp
          have h3 := hall v l' hv hl' hp
          have : dd = d := by omega
          subst this
          exact y.shape)) _ _
    refine ⟨R g (brL outs outs.length) k d false, ⟨fun q => R g (brL outs outs.length) k d q, ?_, fun _ z => z⟩, fun z => z⟩
    have six : d = 3 → R g (brL outs outs.length) k d (((brL outs outs.length).length : Int) == 6) := fun e => by
      by_cases q : (brL outs outs.length).length = 6
      · rw [show (((brL outs outs.length).length : Int) == 6) = true by simp; omega]
        exact ok rfl (.inr ⟨e, q⟩)
      · rw [show (((brL outs outs.length).length : Int) == 6) = false by simp; omega]
        exact no (by omega)
    exact cnd_eq (fun q4 => cnd_eq (fun q5 => ok rfl (.inl ⟨q4, by omega⟩)) fun q5 => cnd_eq (fun q3 => six q3) fun q3 => no (by omega)) fun q4 => cnd_eq (fun q3 => six q3) fun q3 => no (by omega)
end Go.Proofs.Ytmcloipjlihhlaa.N

/- Package kura: ways from branch node to branch node. Conditions: none. -/
set_option linter.unusedSimpArgs false
set_option linter.unusedVariables false
namespace Go.Proofs.Ytmcloipjlihhlaa.N
open Go.X Go.Proofs.Ytmcloipjlihhlaa
set_option maxRecDepth 100000

theorem from_even (es : Es) (n : Nat) : fromH es (2 * n) = (es.getD n (0, 0)).1 ∧ fromH es (2 * n + 1) = (es.getD n (0, 0)).2 := by
  unfold fromH
  rw [show 2 * n / 2 = n by omega, show 2 * n % 2 = 0 by omega, show (2 * n + 1) / 2 = n by omega, show (2 * n + 1) % 2 = 1 by omega]
  exact ⟨rfl, rfl⟩
theorem halfOf_mem {es : Es} {e v x : Int} (he : 0 ≤ e) : x ∈ halfOf es e v ↔ ∃ n : Nat, x = n ∧ n / 2 = e.toNat ∧ fromH es n = v := by
  have f := from_even es e.toNat
  unfold halfOf
  rw [List.mem_append]
  constructor
  · rintro (h | h)
    · split at h
      · rename_i q
        rcases List.mem_singleton.1 h with rfl
        exact ⟨2 * e.toNat, by omega, by omega, by rw [f.1]; exact q⟩
      · cases h
    · split at h
      · rename_i q
        rcases List.mem_singleton.1 h with rfl
        exact ⟨2 * e.toNat + 1, by omega, by omega, by rw [f.2]; exact q⟩
      · cases h
  · rintro ⟨n, rfl, h1, h2⟩
    rcases Nat.mod_two_eq_zero_or_one n with q | q
    · have : n = 2 * e.toNat := by omega
      subst this
      rw [f.1] at h2
      left; rw [if_pos h2]; simp; omega
    · have : n = 2 * e.toNat + 1 := by omega
      subst this
      rw [f.2] at h2
      right; rw [if_pos h2]; simp; omega
theorem halfOf_nodup (es : Es) (e v : Int) : (halfOf es e v).Nodup := by
  unfold halfOf
  split <;> split <;> simp
  omega
theorem outF_mem {es : Es} {sel : List Int} {v x : Int} (hs : ∀ e ∈ sel, 0 ≤ e) : x ∈ outF es sel v ↔ ∃ n : Nat, x = n ∧ ((n / 2 : Nat) : Int) ∈ sel ∧ fromH es n = v := by
  unfold outF
  rw [List.mem_flatMap]
  constructor
  · rintro ⟨e, he, h⟩
    obtain ⟨n, h1, h2, h3⟩ := (halfOf_mem (hs e he)).1 h
    refine ⟨n, h1, ?_, h3⟩
    rw [h2, Int.toNat_of_nonneg (hs e he)]; exact he
  · rintro ⟨n, h1, h2, h3⟩
    exact ⟨_, h2, (halfOf_mem (by omega)).2 ⟨n, h1, by omega, h3⟩⟩
theorem outF_nodup {es : Es} {v : Int} : ∀ {sel : List Int}, (∀ e ∈ sel, 0 ≤ e) → sel.Nodup → (outF es sel v).Nodup
  | [], _, _ => by simp [outF]
  | e :: sel, hs, nd => by
    obtain ⟨h1, h2⟩ := List.nodup_cons.1 nd
    have ih := outF_nodup (es := es) (v := v) (fun e he => hs e (by simp [he])) h2
    have e0 : outF es (e :: sel) v = halfOf es e v ++ outF es sel v := by simp [outF]
    rw [e0]
    refine List.nodup_append.2 ⟨halfOf_nodup es e v, ih, fun a ha b hb hab => ?_⟩
    subst hab
    obtain ⟨n, q1, q2, _⟩ := (halfOf_mem (hs e (by simp))).1 ha
    obtain ⟨m, p1, p2, _⟩ := (outF_mem (fun e he => hs e (by simp [he]))).1 hb
    have : n = m := by omega
    subst this
    rw [q2, Int.toNat_of_nonneg (hs e (by simp))] at p2
    exact h1 p2
theorem outF_len (es : Es) (v : Int) : ∀ sel : List Int, (outF es sel v).length ≤ 2 * sel.length
  | [] => by simp [outF]
  | e :: sel => by
    have ih := outF_len es v sel
    have e0 : outF es (e :: sel) v = halfOf es e v ++ outF es sel v := by simp [outF]
    have : (halfOf es e v).length ≤ 2 := by
      unfold halfOf
      rw [List.length_append]
      split <;> split <;> simp
    rw [e0, List.length_append, List.length_cons]; omega
def nxt (es : Es) (outs : List (List Int)) (h : Nat) : Nat :=
  (if (outs.getD (toH es h).toNat []).getD 0 0 = ((mate h : Nat) : Int) then (outs.getD (toH es h).toNat []).getD 1 0 else (outs.getD (toH es h).toNat []).getD 0 0).toNat
def stopH (es : Es) (outs : List (List Int)) (h : Nat) : Prop := (outs.getD (toH es h).toNat []).length ≠ 2
def itH (es : Es) (outs : List (List Int)) (h : Nat) : Nat → Nat
  | 0 => h
  | n + 1 => nxt es outs (itH es outs h n)
/-- The way, as far as some steps. -/
def wayL (es : Es) (outs : List (List Int)) (h n : Nat) : List Int := (List.range (n + 1)).map fun i => ((itH es outs h i : Nat) : Int)
def fol (es : Es) (outs : List (List Int)) : Nat → Nat → List Nat
  | 0, h => [h]
  | f + 1, h => if (outs.getD (toH es h).toNat []).length = 2 then h :: fol es outs f (nxt es outs h) else [h]
theorem itH_shift (es : Es) (outs : List (List Int)) (h : Nat) : ∀ n, itH es outs h (n + 1) = itH es outs (nxt es outs h) n
  | 0 => rfl
  | n + 1 => by rw [itH, itH_shift es outs h n, itH]
theorem fol_eq (es : Es) (outs : List (List Int)) : ∀ (f j h : Nat), j ≤ f → (∀ i, i < j → ¬ stopH es outs (itH es outs h i)) → stopH es outs (itH es outs h j) → fol es outs f h = (List.range (j + 1)).map (itH es outs h)
  | 0, j, h, hj, _, _ => by
    obtain rfl : j = 0 := by omega
    rfl
  | f + 1, 0, h, _, _, hs => by
    have hs' : ¬ (outs.getD (toH es h).toNat []).length = 2 := hs
    rw [fol, if_neg hs']; rfl
  | f + 1, j + 1, h, hj, hn, hs => by
    have h0 : (outs.getD (toH es h).toNat []).length = 2 := Decidable.not_not.1 (hn 0 (by omega))
    rw [fol, if_pos h0, fol_eq es outs f j (nxt es outs h) (by omega) (fun i hi => by rw [← itH_shift]; exact hn (i + 1) (by omega)) (by rw [← itH_shift]; exact hs)]
    rw [List.range_succ_eq_map (n := j + 1), List.map_cons, List.map_map]
    congr 1
    apply List.map_congr_left
    intro i _
    exact (itH_shift es outs h i).symm
def folF (es : Es) (outs : List (List Int)) (h : Nat) : List Int := (fol es outs (2 * es.length) h).map fun n : Nat => (n : Int)
section
variable {g : Int} {es : Es} {sel : List Int}
/-- A half-edge of a chosen edge. -/
def InH (es : Es) (sel : List Int) (h : Nat) : Prop := h < 2 * es.length ∧ ((h / 2 : Nat) : Int) ∈ sel
theorem outsAt (m : MayN g es) (c : ChosenK es.length sel) {h : Nat} (hh : InH es sel h) : (outsF g es sel).getD (toH es h).toNat [] = outF es sel (toH es h) := by
  have := toH_in m hh.1
  exact getD_of'' (outsF_get this.1 this.2)
theorem chK (c : ChosenK (es.length : Int) sel) : ∀ e ∈ sel, 0 ≤ e := fun e he => (c.1 e he).1
theorem InH.mate {h : Nat} (hh : InH es sel h) : InH es sel (mate h) := ⟨mate_lt hh.1, by rw [mate_div]; exact hh.2⟩
theorem inH_out (c : ChosenK (es.length : Int) sel) {v x : Int} (hx : x ∈ outF es sel v) : ∃ n : Nat, x = n ∧ InH es sel n ∧ fromH es n = v := by
  obtain ⟨n, h1, h2, h3⟩ := (outF_mem (chK c)).1 hx
  have := (c.1 _ h2).2
  exact ⟨n, h1, ⟨by omega, h2⟩, h3⟩
/-- At a node of two half-edges: one leads back, the other one on. -/
theorem two_ways (m : MayN g es) (c : ChosenK (es.length : Int) sel) {h : Nat} (hh : InH es sel h) (hs : ¬ stopH es (outsF g es sel) h) :
    InH es sel (nxt es (outsF g es sel) h) ∧ fromH es (nxt es (outsF g es sel) h) = toH es h ∧ ((nxt es (outsF g es sel) h : Nat) : Int) ≠ mate h ∧ (outF es sel (toH es h) = [((mate h : Nat) : Int), ((nxt es (outsF g es sel) h : Nat) : Int)] ∨ outF es sel (toH es h) = [((nxt es (outsF g es sel) h : Nat) : Int), ((mate h : Nat) : Int)]) := by
  have e := outsAt m c hh
  unfold stopH at hs
  rw [e] at hs
  have hl : (outF es sel (toH es h)).length = 2 := Decidable.not_not.1 hs
  have nd := outF_nodup (es := es) (v := toH es h) (chK c) c.2
  have hm : ((mate h : Nat) : Int) ∈ outF es sel (toH es h) := (outF_mem (chK c)).2 ⟨mate h, rfl, by rw [mate_div]; exact hh.2, from_mate es h⟩
  unfold nxt
  rw [e]
  match hL : outF es sel (toH es h), hl with
  | [x, y], _ =>
    rw [hL] at hm nd
    have hxy : x ≠ y := fun z => by subst z; simp at nd
    obtain ⟨nx, rfl, ix, fx⟩ := inH_out c (v := toH es h) (x := x) (by rw [hL]; simp)
    obtain ⟨ny, rfl, iy, fy⟩ := inH_out c (v := toH es h) (x := y) (by rw [hL]; simp)
    have g0 : ([((nx : Nat) : Int), ((ny : Nat) : Int)] : List Int).getD 0 0 = nx := rfl
    have g1 : ([((nx : Nat) : Int), ((ny : Nat) : Int)] : List Int).getD 1 0 = ny := rfl
    rw [g0, g1]
    by_cases q : ((nx : Nat) : Int) = mate h
    · rw [if_pos q, Int.toNat_natCast]
      exact ⟨iy, fy, fun z => hxy (q.trans z.symm), .inl (by rw [q])⟩
    · rw [if_neg q, Int.toNat_natCast]
      refine ⟨ix, fx, q, .inr ?_⟩
      have : ((mate h : Nat) : Int) = ny := by
        simp at hm
        omega
      rw [this]
theorem itH_in (m : MayN g es) (c : ChosenK (es.length : Int) sel) {h : Nat} (hh : InH es sel h) : ∀ n, (∀ i, i < n → ¬ stopH es (outsF g es sel) (itH es (outsF g es sel) h i)) → InH es sel (itH es (outsF g es sel) h n)
  | 0, _ => hh
  | n + 1, hn => (two_ways m c (itH_in m c hh n fun i hi => hn i (by omega)) (hn n (by omega))).1
theorem nxt_inj (m : MayN g es) (c : ChosenK (es.length : Int) sel) {h k : Nat} (hh : InH es sel h) (hk : InH es sel k) (sh : ¬ stopH es (outsF g es sel) h) (sk : ¬ stopH es (outsF g es sel) k) (e : nxt es (outsF g es sel) h = nxt es (outsF g es sel) k) : h = k := by
  obtain ⟨_, a2, a3, a4⟩ := two_ways m c hh sh
  obtain ⟨_, b2, b3, b4⟩ := two_ways m c hk sk
  have ev : toH es h = toH es k := by rw [← a2, ← b2, e]
  rw [ev] at a4
  rw [← e] at b4 b3
  have em : ((mate h : Nat) : Int) = mate k := by
    rcases a4 with a4 | a4 <;> rcases b4 with b4 | b4 <;> rw [a4] at b4 <;> simp at b4 <;> omega
  have := congrArg mate (show mate h = mate k by omega)
  rwa [mate_mate, mate_mate] at this
theorem itH_ne (m : MayN g es) (c : ChosenK (es.length : Int) sel) {h : Nat} (hh : InH es sel h) (h0 : (outF es sel (fromH es h)).length ≠ 2) {n : Nat} (hn : ∀ i, i < n → ¬ stopH es (outsF g es sel) (itH es (outsF g es sel) h i)) :
    ∀ a b, a < b → b ≤ n → itH es (outsF g es sel) h a ≠ itH es (outsF g es sel) h b
  | 0, b + 1, _, hb => fun e => by
    have ib := itH_in m c hh b fun i hi => hn i (by omega)
    have sb := hn b (by omega)
    obtain ⟨_, b2, _, _⟩ := two_ways m c ib sb
    have : fromH es h = toH es (itH es (outsF g es sel) h b) := by rw [← b2]; exact congrArg _ e
    rw [this] at h0
    unfold stopH at sb
    rw [outsAt m c ib] at sb
    exact sb h0
  | a + 1, b + 1, hab, hb => fun e => itH_ne m c hh h0 hn a b (by omega) (by omega)
    (nxt_inj m c (itH_in m c hh a fun i hi => hn i (by omega)) (itH_in m c hh b fun i hi => hn i (by omega)) (hn a (by omega)) (hn b (by omega)) e)
theorem ends_way (m : MayN g es) (c : ChosenK (es.length : Int) sel) {h : Nat} (hh : InH es sel h) (h0 : (outF es sel (fromH es h)).length ≠ 2) :
    ∃ j, j ≤ 2 * es.length ∧ (∀ i, i < j → ¬ stopH es (outsF g es sel) (itH es (outsF g es sel) h i)) ∧ stopH es (outsF g es sel) (itH es (outsF g es sel) h j) := by
  have dec : ∀ n, (∃ j, j ≤ n ∧ (∀ i, i < j → ¬ stopH es (outsF g es sel) (itH es (outsF g es sel) h i)) ∧ stopH es (outsF g es sel) (itH es (outsF g es sel) h j)) ∨ ∀ i, i < n + 1 → ¬ stopH es (outsF g es sel) (itH es (outsF g es sel) h i) := by
    intro n
    induction n with
    | zero =>
      by_cases q : stopH es (outsF g es sel) (itH es (outsF g es sel) h 0)
      · exact .inl ⟨0, Nat.le_refl _, fun i hi => by omega, q⟩
      · exact .inr fun i hi => by obtain rfl : i = 0 := by omega
                                  exact q
    | succ n ih =>
      rcases ih with ⟨j, h1, h2, h3⟩ | ih
      · exact .inl ⟨j, by omega, h2, h3⟩
      · by_cases q : stopH es (outsF g es sel) (itH es (outsF g es sel) h (n + 1))
        · exact .inl ⟨n + 1, Nat.le_refl _, ih, q⟩
        · refine .inr fun i hi => ?_
          by_cases e : i = n + 1
          · subst e; exact q
          · exact ih i (by omega)
  rcases dec (2 * es.length) with h1 | h1
  · exact h1
  · exfalso
    have nd : ((List.range (2 * es.length + 1)).map (itH es (outsF g es sel) h)).Nodup := by
      refine List.pairwise_iff_getElem.2 fun a b ha hb hab => ?_
      simp only [List.getElem_map, List.getElem_range]
      simp only [List.length_map, List.length_range] at ha hb
      exact itH_ne m c hh h0 h1 a b hab (by omega)
    have := nodup_bound (2 * es.length) _ nd fun x hx => by
      obtain ⟨i, hi, rfl⟩ := List.mem_map.1 hx
      have := List.mem_range.1 hi
      exact (itH_in m c hh i fun a ha => h1 a (by omega)).1
    simp at this
    omega
end
end Go.Proofs.Ytmcloipjlihhlaa.N

/- Package kura: what a form holds. Conditions: none. -/
set_option linter.unusedSimpArgs false
set_option linter.unusedVariables false
namespace Go.Proofs.Ytmcloipjlihhlaa.N
open Go.X Go.Proofs.Ytmcloipjlihhlaa
set_option maxRecDepth 100000

theorem wayL_succ (es : Es) (outs : List (List Int)) (h n : Nat) : wayL es outs h (n + 1) = wayL es outs h n ++ [((itH es outs h (n + 1) : Nat) : Int)] := by
  unfold wayL
  rw [List.range_succ, List.map_append]; rfl
theorem wayL_len (es : Es) (outs : List (List Int)) (h n : Nat) : (wayL es outs h n).length = n + 1 := by simp [wayL]
section
variable {g : Int} {es : Es} {sel : List Int}
theorem folF_way (m : MayN g es) (c : ChosenK (es.length : Int) sel) {h : Nat} (hh : InH es sel h) (h0 : (outF es sel (fromH es h)).length ≠ 2) :
    ∃ j, j ≤ 2 * es.length ∧ (∀ i, i < j → ¬ stopH es (outsF g es sel) (itH es (outsF g es sel) h i)) ∧ stopH es (outsF g es sel) (itH es (outsF g es sel) h j) ∧ folF es (outsF g es sel) h = wayL es (outsF g es sel) h j := by
  obtain ⟨j, h1, h2, h3⟩ := ends_way m c hh h0
  refine ⟨j, h1, h2, h3, ?_⟩
  unfold folF wayL
  rw [fol_eq es _ _ j h h1 h2 h3, List.map_map]; rfl
theorem okFollow {k : Int} {br : List Int} {paths : List (List Int)} {R : Int → List (List Int) → Int → Prop} (m : MayN g es) (c : ChosenK (es.length : Int) sel) {h : Nat} (hh : InH es sel h) (h0 : (outF es sel (fromH es h)).length ≠ 2) (pl : paths.length ≤ 1000000)
    (z : R g (paths ++ [folF es (outsF g es sel) h]) k) : Ok208 g es (outsF g es sel) br paths k h R := by
  obtain ⟨J, h1, h2, h3, h4⟩ := folF_way m c hh h0
  have hm := m.m
  have g1 := m.g1
  apply ok208
  unfold T208
  refine okToF hh.1 (by omega) ?_
  refine ⟨fun a p v => ∃ j : Nat, a = ((itH es (outsF g es sel) h j : Nat) : Int) ∧ p = wayL es (outsF g es sel) h j ∧ v = toH es (itH es (outsF g es sel) h j) ∧ j ≤ J, fun _ p _ => 2 * es.length + 2 - p.length, ⟨0, rfl, rfl, rfl, Nat.zero_le _⟩, ?_⟩
  rintro _ _ _ ⟨j, rfl, rfl, rfl, hj⟩
  have ij := itH_in m c hh j fun i hi => h2 i (by omega)
  have tj := toH_in m ij.1
  refine ⟨tj.1, by rw [outsF_len]; omega, fun l hx => ?_⟩
  have el := outsF_get (es := es) (sel := sel) tj.1 tj.2
  rw [hx] at el
  obtain rfl := Option.some.inj el
  have es' : stopH es (outsF g es sel) (itH es (outsF g es sel) h j) ↔ (outF es sel (toH es (itH es (outsF g es sel) h j))).length ≠ 2 := by
    unfold stopH; rw [outsAt m c ij]
  by_cases q : j = J
  · subst q
    have := es'.1 h3
    refine cnd_eq (fun q => by omega) fun _ => ⟨by omega, by rw [← h4]; exact z⟩
  · have ns := h2 j (by omega)
    have hl2 : (outF es sel (toH es (itH es (outsF g es sel) h j))).length = 2 := by
      rw [es'] at ns; exact Decidable.not_not.1 ns
    obtain ⟨a1, a2, a3, a4⟩ := two_ways m c ij ns
    have wl := wayL_len es (outsF g es sel) h j
    refine cnd_eq (fun _ => ⟨by omega, by omega, fun x hx3 => ⟨fun y => y = ((nxt es (outsF g es sel) (itH es (outsF g es sel) h j) : Nat) : Int), ?_, ?_⟩⟩) fun q => by omega
    · have im := ij.1
      rw [kxor (by omega)]
      rcases a4 with a4 | a4 <;> rw [a4] at hx3 ⊢
      · obtain rfl : _ = x := Option.some.inj hx3
        exact cnd_eq (fun _ => ⟨by omega, by simp, fun y hy => (Option.some.inj hy).symm⟩) fun q => absurd rfl q
      · obtain rfl : _ = x := Option.some.inj hx3
        exact cnd_eq (fun q => absurd q a3) fun _ => rfl
    · rintro _ rfl
      refine ⟨by omega, okToF a1.1 (by omega) ⟨⟨j + 1, rfl, (wayL_succ _ _ _ _).symm, rfl, by omega⟩, ?_⟩⟩
      dsimp only
      rw [List.length_append, wl, List.length_singleton]; omega
/-- A way is a list of half-edges. -/
theorem folF_ok (m : MayN g es) (c : ChosenK (es.length : Int) sel) {h : Nat} (hh : InH es sel h) (h0 : (outF es sel (fromH es h)).length ≠ 2) : HIn es (folF es (outsF g es sel) h) ∧ (folF es (outsF g es sel) h).length ≤ 2 * es.length + 1 := by
  obtain ⟨j, h1, h2, h3, h4⟩ := folF_way m c hh h0
  rw [h4, wayL_len]
  refine ⟨⟨?_, fun x hx => ?_⟩, by omega⟩
  · intro e
    have := wayL_len es (outsF g es sel) h j
    rw [e] at this; simp at this
  · unfold wayL at hx
    obtain ⟨i, hi, rfl⟩ := List.mem_map.1 hx
    have := List.mem_range.1 hi
    exact ⟨_, rfl, (itH_in m c hh i fun a ha => h2 a (by omega)).1⟩
end

def preP (b : List Int) (n : Nat) : List (Int × Int) := (List.range n).flatMap fun i => (b.drop (i + 1)).map fun v => (b.getD i 0, v)
theorem preP_succ (b : List Int) (n : Nat) : preP b (n + 1) = preP b n ++ (b.drop (n + 1)).map fun v => (b.getD n 0, v) := by simp [preP, List.range_succ, List.flatMap_append]
theorem preP_mem {b : List Int} {n : Nat} {q : Int × Int} (h : q ∈ preP b n) : ∃ i, i < n ∧ q.1 = b.getD i 0 ∧ q.2 ∈ b.drop (i + 1) := by
  unfold preP at h
  obtain ⟨i, hi, h⟩ := List.mem_flatMap.1 h
  obtain ⟨v, hv, rfl⟩ := List.mem_map.1 h
  exact ⟨i, List.mem_range.1 hi, rfl, hv⟩
theorem preP_nodup {b : List Int} (nd : b.Nodup) : ∀ n, n ≤ b.length → (preP b n).Nodup
  | 0, _ => by simp [preP]
  | n + 1, hn => by
    rw [preP_succ]
    refine List.nodup_append.2 ⟨preP_nodup nd n (by omega), ?_, fun x hx y hy e => ?_⟩
    · exact List.Pairwise.map _ (fun a b hab e => hab (Prod.mk.inj e).2) (nd.sublist (List.drop_sublist _ _))
    · subst e
      obtain ⟨i, hi, e1, _⟩ := preP_mem hx
      obtain ⟨v, _, rfl⟩ := List.mem_map.1 hy
      have a1 := List.getElem?_eq_getElem (show i < b.length by omega)
      have a2 := List.getElem?_eq_getElem (show n < b.length by omega)
      dsimp only at e1
      rw [getD_of' a1, getD_of' a2] at e1
      exact List.pairwise_iff_getElem.1 nd i n (by omega) (by omega) hi e1.symm
theorem okFive {g k : Int} {es : Es} {outs paths : List (List Int)} {b : List Int} {R : Int → List (List Int) → Int → Prop} (hl : es.length ≤ 1000000) (hn : paths.length ≤ 1000000) (hp : ∀ p ∈ paths, HIn es p ∧ p.length ≤ 1000000)
    (nd : b.Nodup) (hb : b.length ≤ 1000) (bad : (∃ q ∈ preP b b.length, betw es paths q.1 q.2 = none) → R g paths k) (good : ∀ ix, ix.length = (preP b b.length).length → Sel es paths (preP b b.length) ix → R g (ix.map fun i => paths.getD i []) 5) :
    Ok209 g es outs b paths k R := by
  have lenP : ∀ n, (preP b n).length ≤ n * b.length := by
    intro n
    induction n with
    | zero => simp [preP]
    | succ n ih =>
      rw [preP_succ, List.length_append, List.length_map, List.length_drop, Nat.add_mul]; omega
  apply ok209
  unfold T209
  refine ⟨fun q x => ∃ n : Nat, x = n ∧ n ≤ b.length ∧ q = preP b n, fun _ x => ((b.length : Int) - x).toNat, ⟨0, rfl, Nat.zero_le _, rfl⟩, ?_⟩
  rintro _ _ ⟨n, rfl, hn2, rfl⟩
  refine cnd_dec (fun hlt => ⟨by omega, hlt, fun u hu => ?_⟩) fun hlt => ?_
  · rw [Int.toNat_natCast] at hu
    rw [wr (x := (n : Int) + 1) (by omega) (by omega)]
    rw [show Int.toNat ((n : Int) + 1) = n + 1 by omega]
    have eu := getD_of' hu
    refine ⟨by omega, by omega, fun q x => ∃ c : Nat, x = c ∧ c ≤ b.length - (n + 1) ∧ q = preP b n ++ ((b.drop (n + 1)).take c).map fun v => (u, v), fun _ x => ((b.length : Int) - x).toNat, ⟨0, rfl, Nat.zero_le _, by simp⟩, ?_⟩
    rintro _ _ ⟨c, rfl, hc, rfl⟩
    have lp := lenP n
    have : n * b.length ≤ 1000 * 1000 := Nat.mul_le_mul (by omega) hb
    refine cnd_dec (fun hlt2 => ⟨by omega, hlt2, fun v hv => ⟨?_, ?_⟩⟩) fun hlt2 => ?_
    · rw [List.length_append, List.length_map, List.length_take, List.length_drop]; omega
    · rw [Int.toNat_natCast] at hv
      rw [wr (by omega) (by omega)]
      refine ⟨⟨c + 1, by simp, by omega, ?_⟩, by dsimp only; omega⟩
      rw [List.take_add_one, hv, List.append_assoc]
      simp
    · have hce : c = b.length - (n + 1) := by omega
      subst hce
      refine ⟨⟨n + 1, by simp, by omega, ?_⟩, by dsimp only; omega⟩
      rw [preP_succ, List.take_of_length_le (by simp), eu]
  · have hne : n = b.length := by omega
    subst hne
    have lp := lenP b.length
    have : b.length * b.length ≤ 1000 * 1000 := Nat.mul_le_mul hb hb
    exact okSettle hl hn hp (preP_nodup nd _ (Nat.le_refl _)) (by omega) bad good
end Go.Proofs.Ytmcloipjlihhlaa.N

/- Package kura: the form of chosen edges, its kind. Conditions: none. -/
set_option linter.unusedSimpArgs false
set_option linter.unusedVariables false
namespace Go.Proofs.Ytmcloipjlihhlaa.N
open Go.X Go.Proofs.Ytmcloipjlihhlaa
set_option maxRecDepth 100000

theorem map_setI {n : Nat} {i : Int} {f : Nat → List Int} {a : Int} (h0 : 0 ≤ i) (hi : i < n) : ((List.range n).map f).set i.toNat (f i.toNat ++ [a]) = (List.range n).map fun v => f v ++ if i = (v : Int) then [a] else [] := by
  rw [map_set (by omega)]
  apply List.map_congr_left
  intro v _
  by_cases q : i.toNat = v
  · rw [if_pos q, if_pos (by omega)]
  · rw [if_neg q, if_neg (by omega)]
theorem outF_app (es : Es) (sel : List Int) (e v : Int) : outF es (sel ++ [e]) v = outF es sel v ++ halfOf es e v := by simp [outF]
def pathsB (g : Int) (es : Es) (sel b : List Int) : List (List Int) := b.flatMap fun v => (outF es sel v).map fun x => folF es (outsF g es sel) x.toNat
theorem pathsB_app (g : Int) (es : Es) (sel b : List Int) (v : Int) : pathsB g es sel (b ++ [v]) = pathsB g es sel b ++ (outF es sel v).map fun x => folF es (outsF g es sel) x.toNat := by simp [pathsB, List.flatMap_append]
def totL : List (List Int) → Nat
  | [] => 0
  | p :: r => p.length + totL r
theorem totL_app : ∀ a b : List (List Int), totL (a ++ b) = totL a + totL b
  | [], b => by simp [totL]
  | p :: a, b => by simp [totL, totL_app a b]; omega
theorem totL_le {l : List (List Int)} {c : Nat} (h : ∀ p ∈ l, p.length ≤ c) : totL l ≤ l.length * c := by
  induction l with
  | nil => simp [totL]
  | cons p r ih =>
    have := ih fun q hq => h q (by simp [hq])
    have := h p (by simp)
    rw [totL, List.length_cons, Nat.add_mul, Nat.one_mul]; omega
/-- What makes a form a subdivision: its kind, branch nodes, paths. -/
def Good (g : Int) (es : Es) (sel : List Int) (k : Int) (b : List Int) (p : List (List Int)) : Prop :=
  (k = 5 ∧ BrOK (outsF g es sel) 4 b ∧ totL (pathsB g es sel b) = 2 * sel.length ∧ ∃ ix : List Nat, ix.length = (preP b b.length).length ∧ Sel es (pathsB g es sel b) (preP b b.length) ix ∧ p = ix.map fun i => (pathsB g es sel b).getD i []) ∨
  (k = 33 ∧ ∃ (u : Int) (rest : List Int), BrOK (outsF g es sel) 3 (u :: rest) ∧ totL (pathsB g es sel (u :: rest)) = 2 * sel.length ∧ (sideB es (pathsB g es sel (u :: rest)) u rest).length = 3 ∧
    b = sideA es (pathsB g es sel (u :: rest)) u rest ++ sideB es (pathsB g es sel (u :: rest)) u rest ∧
    ∃ ix : List Nat, ix.length = (pairsOf (sideA es (pathsB g es sel (u :: rest)) u rest) (sideB es (pathsB g es sel (u :: rest)) u rest)).length ∧ Sel es (pathsB g es sel (u :: rest)) (pairsOf (sideA es (pathsB g es sel (u :: rest)) u rest) (sideB es (pathsB g es sel (u :: rest)) u rest)) ix ∧ p = ix.map fun i => (pathsB g es sel (u :: rest)).getD i [])
theorem BrOK.uniq {outs : List (List Int)} {d d' : Int} {b b' : List Int} (x : BrOK outs d b) (y : BrOK outs d' b') : d = d' ∧ b = b' := by
  have e : b = b' := x.eq.trans y.eq.symm
  subst e
  refine ⟨?_, rfl⟩
  rcases x.shape with ⟨e1, e2⟩ | ⟨e1, e2⟩ <;> rcases y.shape with ⟨e3, e4⟩ | ⟨e3, e4⟩ <;> omega
theorem Sel.none {es : Es} {paths : List (List Int)} {pairs : List (Int × Int)} {ix : List Nat} (hl : ix.length = pairs.length) (s : Sel es paths pairs ix) (h : ∃ q ∈ pairs, betw es paths q.1 q.2 = none) : False := by
  obtain ⟨q, hq, hn⟩ := h
  obtain ⟨j, hj⟩ := List.mem_iff_getElem?.1 hq
  have hjl := (List.getElem?_eq_some_iff.1 hj).1
  have := s j _ q (List.getElem?_eq_getElem (show j < ix.length by omega)) hj
  rw [hn] at this; cases this
theorem brL_nodup (outs : List (List Int)) (n : Nat) : (brL outs n).Nodup := by
  unfold brL
  refine List.Pairwise.map _ (fun a b hab e => hab (by omega)) (List.nodup_range.filter _)
section
variable {g : Int} {es : Es} {sel : List Int}
theorem brOK_at (m : MayN g es) {d : Int} {b : List Int} (z : BrOK (outsF g es sel) d b) {v : Int} (hv : v ∈ b) : (0 ≤ v ∧ v < g) ∧ ((outF es sel v).length : Int) = d ∧ (outF es sel v).length ≠ 2 := by
  have g0 := m.g0
  rw [z.eq] at hv
  unfold brL at hv
  obtain ⟨n, hn, rfl⟩ := List.mem_map.1 hv
  rw [List.mem_filter, List.mem_range, outsF_len] at hn
  have e := outsF_get (es := es) (sel := sel) (g := g) (v := (n : Int)) (by omega) (by omega)
  rw [Int.toNat_natCast] at e
  rw [getD_of'' e] at hn
  exact ⟨by omega, z.all n _ e hn.2, (brP_iff.1 hn.2).2⟩
theorem brOK_len {outs : List (List Int)} {d : Int} {b : List Int} (z : BrOK outs d b) : b.length ≤ 6 ∧ d ≤ 4 := by
  rcases z.shape with ⟨e, f⟩ | ⟨e, f⟩ <;> omega
theorem pathsB_len (m : MayN g es) {d : Int} {b : List Int} (z : BrOK (outsF g es sel) d b) : ∀ l : List Int, (∀ v ∈ l, v ∈ b) → (pathsB g es sel l).length ≤ l.length * 4
  | [], _ => by simp [pathsB]
  | v :: l, h => by
    have ih := pathsB_len m z l fun w hw => h w (by simp [hw])
    have h1 := (brOK_at m z (h v (by simp))).2.1
    have h2 := (brOK_len z).2
    have e0 : pathsB g es sel (v :: l) = ((outF es sel v).map fun x => folF es (outsF g es sel) x.toNat) ++ pathsB g es sel l := by simp [pathsB]
    rw [e0, List.length_append, List.length_map, List.length_cons, Nat.add_mul]; omega
theorem pathsB_ok (m : MayN g es) (c : ChosenK (es.length : Int) sel) {d : Int} {b : List Int} (z : BrOK (outsF g es sel) d b) {l : List Int} (hl : ∀ v ∈ l, v ∈ b) : ∀ p ∈ pathsB g es sel l, HIn es p ∧ p.length ≤ 2 * es.length + 1 := by
  intro p hp
  unfold pathsB at hp
  obtain ⟨v, hv, hp⟩ := List.mem_flatMap.1 hp
  obtain ⟨x, hx, rfl⟩ := List.mem_map.1 hp
  obtain ⟨n, rfl, h1, h2⟩ := inH_out c hx
  rw [Int.toNat_natCast]
  exact folF_ok m c h1 (by rw [h2]; exact (brOK_at m z (hl v hv)).2.2)
theorem okOf {R : Int → List (List Int) → List Int → List (List Int) → Int → Prop} (m : MayN g es) (c : ChosenK (es.length : Int) sel) (hs : sel.length ≤ 1000000) (z : (¬ ∃ k b p, Good g es sel k b p) → ∀ b p, R g (outsF g es sel) b p 0) (s : ∀ k b p, Good g es sel k b p → R g (outsF g es sel) b p k) : Ok157 g es sel R := by
  have g0 := m.g0
  have g1 := m.g1
  have mm := m.m
  apply ok157
  unfold T157
  refine ⟨g0, by omega, fun x y => ∃ n : Nat, x = n ∧ n ≤ sel.length ∧ y = outsF g es (sel.take n), fun x _ => ((sel.length : Int) - x).toNat, ⟨0, rfl, Nat.zero_le _, ?_⟩, ?_⟩
  · unfold outsF
    apply List.ext_getElem?
    intro i
    rw [List.getElem?_replicate, List.getElem?_map]
    by_cases q : i < g.toNat
    · rw [if_pos q, List.getElem?_range q]; rfl
    · rw [if_neg q, List.getElem?_eq_none (by simpa using q)]; rfl
  rintro _ _ ⟨n, rfl, hn, rfl⟩
  refine cnd_dec (fun hlt => ⟨by omega, hlt, fun e he => ?_⟩) fun hlt => ?_
  · rw [Int.toNat_natCast] at he
    have her := c.1 e (List.mem_of_getElem? he)
    refine ⟨her.1, her.2, fun q hq => ?_⟩
    have qr := m.e _ q hq
    have hqd : es.getD e.toNat (0, 0) = q := by simp [List.getD, hq]
    have hlen : ∀ v, (outF es (sel.take n) v).length ≤ 2 * sel.length := fun v => Nat.le_trans (outF_len _ _ _) (by rw [List.length_take]; omega)
    have e1 : outsF g es (sel.take (n + 1)) = (List.range g.toNat).map fun v : Nat => (outF es (sel.take n) v ++ if q.1 = (v : Int) then [2 * e] else []) ++ if q.2 = (v : Int) then [2 * e + 1] else [] := by
      unfold outsF
      apply List.map_congr_left
      intro v _
      rw [List.take_add_one, he]
      show outF es (sel.take n ++ [e]) v = _
      rw [outF_app, List.append_assoc]
      unfold halfOf
      rw [hqd]
    refine ⟨fun x y => (x = 0 ∧ y = outsF g es (sel.take n)) ∨ (x = 1 ∧ y = (List.range g.toNat).map fun v : Nat => outF es (sel.take n) v ++ if q.1 = (v : Int) then [2 * e] else []) ∨ (x = 2 ∧ y = outsF g es (sel.take (n + 1))), fun x _ => (2 - x).toNat, .inl ⟨rfl, rfl⟩, ?_⟩
    rintro _ _ (⟨rfl, rfl⟩ | ⟨rfl, rfl⟩ | ⟨rfl, rfl⟩)
    · refine cnd_dec (fun _ => ⟨by decide, by decide, q.1, rfl, qr.1.1, by rw [outsF_len]; omega, fun l hl => ?_⟩) fun z => absurd (by decide) z
      have el := outsF_get (g := g) (es := es) (sel := sel.take n) qr.1.1 qr.1.2
      rw [el] at hl
      obtain rfl := Option.some.inj hl
      have := hlen q.1
      rw [wr (x := 2 * e) (by omega) (by omega), wr (x := 2 * e + 0) (by omega) (by omega), wr (x := (0 : Int) + 1) (by omega) (by omega), Int.add_zero]
      refine ⟨by omega, qr.1.1, by rw [outsF_len]; omega, .inr (.inl ⟨rfl, ?_⟩), by dsimp only; omega⟩
      have := map_setI (n := g.toNat) (i := q.1) (f := fun v : Nat => outF es (sel.take n) v) (a := 2 * e) qr.1.1 (by omega)
      rw [Int.toNat_of_nonneg qr.1.1] at this
      exact this
    · refine cnd_dec (fun _ => ⟨by decide, by decide, q.2, rfl, qr.2.1, by simp; omega, fun l hl => ?_⟩) fun z => absurd (by decide) z
      rw [List.getElem?_map, List.getElem?_range (by omega)] at hl
      obtain rfl := Option.some.inj hl
      have hh := hlen q.2
      dsimp only
      rw [Int.toNat_of_nonneg qr.2.1]
      rw [wr (x := 2 * e) (by omega) (by omega), wr (x := 2 * e + 1) (by omega) (by omega), wr (x := (1 : Int) + 1) (by omega) (by omega)]
      refine ⟨?_, qr.2.1, by simp; omega, .inr (.inr ⟨rfl, ?_⟩), by show ((2 : Int) - (1 + 1)).toNat < ((2 : Int) - 1).toNat; decide⟩
      · rw [List.length_append]
        split
        · simp; omega
        · simp; omega
      · rw [e1]
        have := map_setI (n := g.toNat) (i := q.2) (f := fun v : Nat => outF es (sel.take n) v ++ if q.1 = (v : Int) then [2 * e] else []) (a := 2 * e + 1) qr.2.1 (by omega)
        rw [Int.toNat_of_nonneg qr.2.1] at this
        exact this
    · refine cnd_dec (fun z => absurd z (by decide)) fun _ => ?_
      rw [wr (by omega) (by omega)]
      exact ⟨⟨n + 1, by simp, by omega, rfl⟩, by dsimp only; omega⟩
  · have hne : sel.take n = sel := List.take_of_length_le (by omega)
    rw [hne]
    have hol := outsF_len g es sel
    have goods : ∀ {k b p d b'}, Good g es sel k b p → BrOK (outsF g es sel) d b' → totL (pathsB g es sel b') = 2 * sel.length := by
      intro k b p d b' y x
      rcases y with ⟨_, y, t, _⟩ | ⟨_, u, rest, y, t, _⟩
      · rw [(x.uniq y).2]; exact t
      · rw [(x.uniq y).2]; exact t
    refine okBr (by omega) (fun l hl => ?_) (fun hb b d => cnd_not (fun _ => z (fun ⟨k, b, p, y⟩ => hb ?_) b []) fun z => by cases z) fun d b x => ?_
    · unfold outsF at hl
      obtain ⟨v, _, rfl⟩ := List.mem_map.1 hl
      have := outF_len es (v : Int) sel
      have : sel.length ≤ es.length := by
        have := nodup_boundI c.2 c.1
        omega
      omega
    · rcases y with ⟨_, y, _⟩ | ⟨_, u, rest, y, _⟩
      · exact ⟨_, _, y⟩
      · exact ⟨_, _, y⟩
    refine cnd_not (fun q => by cases q) fun _ => ?_
    have bl := brOK_len x
    have pl := pathsB_len m x
    have po := fun l hl => pathsB_ok m c x (l := l) hl
    have bt : ∀ n, ∀ v ∈ b.take n, v ∈ b := fun n v hv => List.mem_of_mem_take hv
    refine ⟨fun x7 y3 y4 y5 => ∃ n : Nat, x7 = n ∧ n ≤ b.length ∧ g = y3 ∧ y5 = 0 ∧ y4 = pathsB g es sel (b.take n), fun x7 _ _ _ => ((b.length : Int) - x7).toNat, ⟨0, rfl, Nat.zero_le _, rfl, rfl, rfl⟩, ?_⟩
    rintro _ _ _ _ ⟨n, rfl, hn2, rfl, rfl, rfl⟩
    refine cnd_dec (fun hlt2 => ⟨by omega, hlt2, fun v hv => ?_⟩) fun hlt2 => ?_
    · rw [Int.toNat_natCast] at hv
      have va := brOK_at m x (List.mem_of_getElem? hv)
      refine ⟨va.1.1, by omega, fun l hl => ?_⟩
      rw [outsF_get va.1.1 va.1.2] at hl
      obtain rfl := Option.some.inj hl
      have ep : pathsB g es sel (b.take (n + 1)) = pathsB g es sel (b.take n) ++ (outF es sel v).map fun x => folF es (outsF g es sel) x.toNat := by
        rw [List.take_add_one, hv]; exact pathsB_app _ _ _ _ _
      refine ⟨fun x9 y3 y4 y5 => ∃ a : Nat, x9 = a ∧ a ≤ (outF es sel v).length ∧ g = y3 ∧ y5 = 0 ∧ y4 = pathsB g es sel (b.take n) ++ ((outF es sel v).take a).map fun x => folF es (outsF g es sel) x.toNat, fun x9 _ _ _ => (((outF es sel v).length : Int) - x9).toNat, ⟨0, rfl, Nat.zero_le _, rfl, rfl, by simp⟩, ?_⟩
      rintro _ _ _ _ ⟨a, rfl, ha, rfl, rfl, rfl⟩
      refine cnd_dec (fun hlt3 => ⟨by omega, hlt3, fun y hy => ?_⟩) fun hlt3 => ?_
      · rw [Int.toNat_natCast] at hy
        obtain ⟨h, rfl, ih, fh⟩ := inH_out c (List.mem_of_getElem? hy)
        refine okFollow m c ih (by rw [fh]; exact va.2.2) ?_ ?_
        · have := pl (b.take n) (bt n)
          rw [List.length_append, List.length_map, List.length_take]
          rw [List.length_take] at this
          omega
        · rw [wr (by omega) (by omega)]
          refine ⟨⟨a + 1, by simp, by omega, rfl, rfl, ?_⟩, by dsimp only; omega⟩
          rw [List.take_add_one, hy, List.append_assoc]
          simp
      · have hae : a = (outF es sel v).length := by omega
        subst hae
        rw [List.take_length, ← ep]
        rw [wr (by omega) (by omega)]
        exact ⟨⟨n + 1, by simp, by omega, rfl, rfl, rfl⟩, by dsimp only; omega⟩
    · have hnb : b.take n = b := List.take_of_length_le (by omega)
      rw [hnb]
      have hp := po b fun v hv => hv
      have pl1 := pl b fun v hv => hv
      have tot : ∀ a, totL ((pathsB g es sel b).take a) ≤ 24 * 7000 := fun a => by
        have := totL_le (l := (pathsB g es sel b).take a) (c := 7000) fun p hp' => by
          have := (hp p (List.mem_of_mem_take hp')).2; omega
        rw [List.length_take] at this
        have : min a (pathsB g es sel b).length * 7000 ≤ 24 * 7000 := Nat.mul_le_mul_right _ (by omega)
        omega
      refine ⟨fun t x => ∃ a : Nat, x = a ∧ a ≤ (pathsB g es sel b).length ∧ t = (totL ((pathsB g es sel b).take a) : Nat), fun _ x => (((pathsB g es sel b).length : Int) - x).toNat, ⟨0, rfl, Nat.zero_le _, rfl⟩, ?_⟩
      rintro _ _ ⟨a, rfl, ha, rfl⟩
      refine cnd_dec (fun hlt4 => ⟨by omega, hlt4, fun p hp1 => ?_⟩) fun hlt4 => ?_
      · rw [Int.toNat_natCast] at hp1
        have hpl := (hp p (List.mem_of_getElem? hp1)).2
        have t1 := tot a
        rw [wr (x := (a : Int) + 1) (by omega) (by omega), wr (by omega) (by omega)]
        refine ⟨⟨a + 1, by simp, by omega, ?_⟩, by dsimp only; omega⟩
        rw [List.take_add_one, hp1, totL_app]
        simp [totL]
      · rw [List.take_of_length_le (show (pathsB g es sel b).length ≤ a by omega)]
        rw [wr (x := 2 * (sel.length : Int)) (by omega) (by omega)]
        refine cnd_ne (fun q => z (fun ⟨k, b', p, y⟩ => q (by have := goods y x; omega)) _ _) fun q => ?_
        have ht : totL (pathsB g es sel b) = 2 * sel.length := by omega
        have ndb : b.Nodup := by rw [x.eq]; exact brL_nodup _ _
        have hp' : ∀ p ∈ pathsB g es sel b, HIn es p ∧ p.length ≤ 1000000 := fun p h => ⟨(hp p h).1, by have := (hp p h).2; omega⟩
        refine ⟨fun y9 y10 y11 y12 => R y9 (outsF g es sel) y10 y11 y12, cnd_eq (fun q4 => ?_) fun q4 => ?_, fun _ _ _ _ w => w⟩
        · -- four: perhaps five nodes, each to each
          subst q4
          refine okFive (by omega) (by omega) hp' ndb (by omega) (fun hb => z (fun ⟨k, b', p, y⟩ => ?_) _ _) fun ix h1 h2 => s 5 b _ (.inl ⟨rfl, x, ht, ix, h1, h2, rfl⟩)
          rcases y with ⟨_, y, _, ix, h1, h2, _⟩ | ⟨_, u, rest, y, _⟩
          · rw [(x.uniq y).2] at hb
            exact h2.none h1 hb
          · exact absurd (x.uniq y).1 (by decide)
        · -- three: perhaps two sides
          have hd3 : d = 3 := by rcases x.shape with ⟨e, _⟩ | ⟨e, _⟩ <;> omega
          subst hd3
          have hb6 : b.length = 6 := by rcases x.shape with ⟨e, _⟩ | ⟨_, e⟩ <;> omega
          match b, hb6, ndb, x, ht, hp', pl1 with
          | u :: rest, hb6, ndb, x, ht, hp', pl1 =>
            have nog : ¬ (sideB es (pathsB g es sel (u :: rest)) u rest).length = 3 ∨ (∃ q ∈ pairsOf (sideA es (pathsB g es sel (u :: rest)) u rest) (sideB es (pathsB g es sel (u :: rest)) u rest), betw es (pathsB g es sel (u :: rest)) q.1 q.2 = none) → ¬ ∃ k b p, Good g es sel k b p := by
              rintro w ⟨k, b', p, y⟩
              rcases y with ⟨_, y, _⟩ | ⟨_, u', rest', y, _, h3, _, ix, h1, h2, _⟩
              · exact absurd (x.uniq y).1 (by decide)
              · obtain ⟨rfl, rfl⟩ := List.cons.inj (x.uniq y).2
                rcases w with w | w
                · exact w h3
                · exact h2.none h1 w
            exact okParted (by omega) (by omega) hp' (by simpa using hb6) ndb (fun w => z (nog (.inl w)) _ _) (fun w1 w2 => z (nog (.inr w2)) _ _) fun w ix h1 h2 => s 33 _ _ (.inr ⟨rfl, u, rest, x, ht, w, rfl, ix, h1, h2, rfl⟩)
end
end Go.Proofs.Ytmcloipjlihhlaa.N
