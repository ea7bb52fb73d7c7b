/- Package kura, by hand over memory: a path between two nodes, paths that are picked out. Conditions: none. -/
import Derived.Test.YtmcloipjlihhlaaTKura
import Derived.Test.YtmcloipjlihhlaaSKura
import Derived.Test.YtmcloipjlihhlaaNBfs
set_option linter.unusedSimpArgs false
set_option linter.unusedVariables false
namespace Go.Proofs.Ytmcloipjlihhlaa.N
open Go.X Go.Proofs.Ytmcloipjlihhlaa
set_option maxRecDepth 100000

theorem kxor_nat (n : Nat) : n ^^^ 1 = mate n := by
  have h1 : (n ^^^ 1) / 2 = n / 2 := by rw [Nat.xor_div_two]; simp
  have h2 : (n ^^^ 1) % 2 = if n % 2 = 0 then 1 else 0 := by
    have := Nat.xor_mod_two_pow (a := n) (b := 1) (n := 1)
    rw [Nat.pow_one] at this
    rw [this]
    rcases Nat.mod_two_eq_zero_or_one n with q | q
    · rw [q]; rfl
    · rw [q]; rfl
  unfold mate
  split at h2
  · rename_i q; rw [if_pos q]; omega
  · rename_i q; rw [if_neg q]; omega
theorem kxor {n : Nat} (h : n ≤ 1000000000) : bits .xor .i64 (n : Int) 1 = ((mate n : Nat) : Int) := by
  have e1 : (BitVec.ofInt IntKind.i64.bits (n : Int)).toNat = n := by
    have hk : IntKind.i64.bits = 64 := rfl
    rw [BitVec.toNat_ofInt, hk]; omega
  have e2 : (BitVec.ofInt IntKind.i64.bits (1 : Int)).toNat = 1 := by decide
  unfold bits
  simp only [BitVec.toNat_xor]
  rw [e1, e2, kxor_nat, wr]
  · omega
  · unfold mate; split <;> omega
theorem okToF {g k : Int} {es : Es} {outs paths : List (List Int)} {br : List Int} {h : Nat} {R : Int → Prop} (hh : h < 2 * es.length) (hl : es.length ≤ 1000000) (z : R (toH es h)) : Ok159 g es outs br paths k h R := by
  apply ok159
  unfold T159
  rw [half_div h (by omega), half_mod, wr (by omega) (by omega)]
  refine ⟨by decide, by decide, by omega, by omega, by omega, by omega, fun x hx => ?_⟩
  rw [Int.toNat_natCast] at hx
  rw [half_at hh] at hx
  obtain rfl := Option.some.inj hx
  exact z
/-- A path of half-edges. -/
def HIn (es : Es) (p : List Int) : Prop := p ≠ [] ∧ ∀ x ∈ p, ∃ n : Nat, x = n ∧ n < 2 * es.length
theorem mate_to {es : Es} {h : Nat} : toH es (mate h) = fromH es h := by
  unfold toH fromH
  rw [mate_div]
  congr 1
  unfold mate
  split <;> omega
def endsP (es : Es) (p : List Int) : Int × Int := (fromH es (p.getD 0 0).toNat, toH es (p.getD (p.length - 1) 0).toNat)
def hits (es : Es) (paths : List (List Int)) (u v : Int) (k : Nat) : List Nat := (List.range k).filter fun i => decide (endsP es (paths.getD i []) = (u, v))
def betw (es : Es) (paths : List (List Int)) (u v : Int) : Option Nat := match hits es paths u v paths.length with
  | [i] => some i
  | _ => none
theorem hits_succ (es : Es) (paths : List (List Int)) (u v : Int) (k : Nat) : hits es paths u v (k + 1) = hits es paths u v k ++ if endsP es (paths.getD k []) = (u, v) then [k] else [] := by
  unfold hits
  rw [List.range_succ, List.filter_append]
  congr 1
  by_cases q : endsP es (paths.getD k []) = (u, v)
  · rw [if_pos q]
    exact (List.filter_cons_of_pos (p := fun i => decide (endsP es (paths.getD i []) = (u, v))) (decide_eq_true q)).trans rfl
  · rw [if_neg q]
    exact (List.filter_cons_of_neg (p := fun i => decide (endsP es (paths.getD i []) = (u, v))) (by simp only [decide_eq_true_eq]; exact q)).trans rfl
theorem hits_more (es : Es) (paths : List (List Int)) (u v : Int) (k : Nat) : ∀ d, ∃ r, hits es paths u v (k + d) = hits es paths u v k ++ r
  | 0 => ⟨[], by simp⟩
  | d + 1 => by
    obtain ⟨r, e⟩ := hits_more es paths u v k d
    exact ⟨r ++ if endsP es (paths.getD (k + d) []) = (u, v) then [k + d] else [], by rw [← Nat.add_assoc, hits_succ, e, List.append_assoc]⟩
theorem betw_two {es : Es} {paths : List (List Int)} {u v : Int} {k i : Nat} (hk : k < paths.length) (h1 : hits es paths u v k = [i]) (h2 : endsP es (paths.getD k []) = (u, v)) : betw es paths u v = none := by
  have h3 : hits es paths u v (k + 1) = [i, k] := by rw [hits_succ, h1, if_pos h2]; rfl
  obtain ⟨r, e⟩ := hits_more es paths u v (k + 1) (paths.length - (k + 1))
  rw [show k + 1 + (paths.length - (k + 1)) = paths.length by omega, h3] at e
  unfold betw
  rw [e]
  rfl
theorem mem_hits {es : Es} {paths : List (List Int)} {u v : Int} {k i : Nat} (h : i ∈ hits es paths u v k) : i < k ∧ endsP es (paths.getD i []) = (u, v) := by
  unfold hits at h
  rw [List.mem_filter] at h
  exact ⟨List.mem_range.1 h.1, of_decide_eq_true h.2⟩
theorem betw_some {es : Es} {paths : List (List Int)} {u v : Int} {i : Nat} (h : betw es paths u v = some i) : i < paths.length ∧ endsP es (paths.getD i []) = (u, v) := by
  unfold betw at h
  split at h
  · rename_i j e
    obtain rfl := Option.some.inj h
    exact mem_hits (by rw [e]; simp)
  · cases h
/-- What is found, as a slice. -/
def FoundS (H : List RowH) (paths : List (List Int)) (l : List Nat) (A : Option Addr) (L C : Nat) : Prop :=
  (l = [] ∧ A = none ∧ L = 0 ∧ C = 0) ∨ ∃ (i : Nat) (r : RowH) (p : List Int), l = [i] ∧ H[i]? = some r ∧ paths[i]? = some p ∧ A = r.a ∧ L = p.length ∧ C = r.c ∧ Option.isNone r.a = false
theorem cnd_b' {x : Bool} {A B : Prop} (a : x = true → A) (b : x = false → B) : cnd x A B := ⟨a, b⟩
theorem getD_of' {l : List Int} {i : Nat} {x : Int} (h : l[i]? = some x) : l.getD i 0 = x := by simp [List.getD_eq_getElem?_getD, h]
theorem getD_of'' {l : List (List Int)} {i : Nat} {x : List Int} (h : l[i]? = some x) : l.getD i [] = x := by simp [List.getD_eq_getElem?_getD, h]
theorem okBetw {g k u v : Int} {es : Es} {outs paths : List (List Int)} {br : List Int} (hl : es.length ≤ 1000000) (hn : paths.length ≤ 1000000) (hp : ∀ p ∈ paths, HIn es p ∧ p.length ≤ 1000000)
    {h : Heap} {fB fO : Nat} {eA : Option Addr} {eL eC : Nat} {oA : Option Addr} {oL oC : Nat} {oH : List RowH} {bA : Option Addr} {bL bC : Nat} {pA : Option Addr} {pL pC : Nat} {pH : List RowH}
    (H : Hp h [Ck.vob fB fO [.int .i64 g, .slice eA eL eC, .slice oA oL oC, .slice bA bL bC, .slice pA pL pC, .int .i64 k], Ck.vw eP eA eL eC es, Ck.vrows eI oA oL oC oH outs, Ck.vw eI bA bL bC br, Ck.vrows eI pA pL pC pH paths]) :
    CallsH Try.prog 225 #[.pointer (some ⟨fB, fO, none⟩), .int .i64 u, .int .i64 v] h fun w h' => Sy h [] h' [] ∧ ((betw es paths u v = none ∧ w = .slice none 0 0) ∨
      ∃ (i : Nat) (r : RowH) (p : List Int), betw es paths u v = some i ∧ pH[i]? = some r ∧ paths[i]? = some p ∧ w = .slice r.a p.length r.c ∧ Option.isNone r.a = false) := by
  have Y : Sy h [] h _ := Sy.startM H rfl
  obtain rfl := Y.lenV 1 rfl
  obtain rfl := Y.lenW 2 rfl
  obtain rfl := Y.lenV 3 rfl
  obtain rfl := Y.lenW 4 rfl
  apply calls225
  unfold S225
  refine ⟨fB, fO, rfl, _, _, _, Y.cellW 0 rfl 4 rfl, ?_⟩
  refine ⟨fun l h' => ∃ (A : Option Addr) (L C n : Nat), l = [.slice A L C, .int .i64 n] ∧ n ≤ paths.length ∧ FoundS pH paths (hits es paths u v n) A L C ∧ Sy h [] h' [Ck.vob fB fO [.int .i64 g, .slice eA es.length eC, .slice oA outs.length oC, .slice bA br.length bC, .slice pA paths.length pC, .int .i64 k], Ck.vw eP eA es.length eC es, Ck.vrows eI oA outs.length oC oH outs, Ck.vw eI bA br.length bC br, Ck.vrows eI pA paths.length pC pH paths],
    fun l _ => (match l with | [_, .int _ x] => ((paths.length : Int) - x).toNat | _ => 0), ⟨none, 0, 0, 0, rfl, Nat.zero_le _, .inl ⟨rfl, rfl, rfl, rfl⟩, Y⟩, ?_⟩
  rintro A L C _ hv ⟨_, _, _, n, e, hn2, F, Y⟩
  cases e
  refine cnd_dec (fun hlt => ?_) fun hlt => ?_
  · obtain ⟨b2, o2, hb, _, p, hx, r, hr⟩ := Y.atW 4 rfl (i := (n : Int)) (by omega) (by omega)
    refine ⟨b2, o2, hb, by omega, by omega, _, _, _, Y.cellWR 4 rfl hb hr hx, ?_⟩
    rw [Int.toNat_natCast] at hx hr
    obtain ⟨⟨hne, hin⟩, hpl⟩ := hp p (List.mem_of_getElem? hx)
    have hpos : 0 < p.length := List.length_pos_iff.2 hne
    have epn := getD_of'' hx
    obtain ⟨b3, o3, hb3, _, y0, hy0⟩ := Y.atRowW 4 rfl hr hx (i := 0) (by omega) (by omega)
    refine ⟨b3, o3, hb3, by omega, by omega, _, Y.cellRowW 4 rfl hr hx hb3 (t := 0) hy0 rfl, ?_⟩
    obtain ⟨m0, rfl, hm0⟩ := hin y0 (List.mem_of_getElem? hy0)
    rw [kxor (by omega)]
    refine callX_sy (okToF (R := fun r => r = fromH es m0) (mate_lt hm0) hl mate_to _ _ _ _ _ _ _ _ _ _ _ _ _ _ _ _ _ Y.hp) (fun _ _ ⟨_, q, _⟩ => q.fr) alln ?_
    rintro v2 hv2 ⟨r0, PP, rfl, rfl⟩
    have Y : Sy _ _ hv2 _ := Y.gr PP.fr
    clear PP
    refine ⟨_, rfl, ?_⟩
    have e1 : (endsP es p).1 = fromH es m0 := by
      unfold endsP; dsimp only
      rw [getD_of' (i := 0) hy0, Int.toNat_natCast]
    have back : ∀ {hv3 : Heap} {A' : Option Addr} {L' C' : Nat}, FoundS pH paths (hits es paths u v (n + 1)) A' L' C' → Sy h [] hv3 [Ck.vob fB fO [.int .i64 g, .slice eA es.length eC, .slice oA outs.length oC, .slice bA br.length bC, .slice pA paths.length pC, .int .i64 k], Ck.vw eP eA es.length eC es, Ck.vrows eI oA outs.length oC oH outs, Ck.vw eI bA br.length bC br, Ck.vrows eI pA paths.length pC pH paths] →
        (∃ (A : Option Addr) (L C n' : Nat), [Value.slice A' L' C', .int .i64 (IntKind.i64.wrap ((n : Int) + 1))] = [.slice A L C, .int .i64 n'] ∧ n' ≤ paths.length ∧ FoundS pH paths (hits es paths u v n') A L C ∧ Sy h [] hv3 [Ck.vob fB fO [.int .i64 g, .slice eA es.length eC, .slice oA outs.length oC, .slice bA br.length bC, .slice pA paths.length pC, .int .i64 k], Ck.vw eP eA es.length eC es, Ck.vrows eI oA outs.length oC oH outs, Ck.vw eI bA br.length bC br, Ck.vrows eI pA paths.length pC pH paths]) ∧
        ((paths.length : Int) - IntKind.i64.wrap ((n : Int) + 1)).toNat < ((paths.length : Int) - n).toNat := by
      intro hv3 A' L' C' F' Y'
      rw [wr (by omega) (by omega)]
      exact ⟨⟨A', L', C', n + 1, by simp, by omega, F', Y'⟩, by omega⟩
    refine cnd_eq (fun q1 => ?_) fun q1 => ?_
    · have hlast : ((p.length : Int) - 1).toNat = p.length - 1 := by omega
      rw [wr (x := (p.length : Int) - 1) (by omega) (by omega)]
      obtain ⟨b4, o4, hb4, _, y1, hy1⟩ := Y.atRowW 4 rfl hr hx (i := (p.length : Int) - 1) (by omega) (by omega)
      refine ⟨b4, o4, hb4, by omega, by omega, _, Y.cellRowW 4 rfl hr hx hb4 (t := 0) hy1 rfl, ?_⟩
      obtain ⟨m1, rfl, hm1⟩ := hin y1 (List.mem_of_getElem? hy1)
      refine callX_sy (okToF (R := fun r => r = toH es m1) hm1 hl rfl _ _ _ _ _ _ _ _ _ _ _ _ _ _ _ _ _ Y.hp) (fun _ _ ⟨_, q, _⟩ => q.fr) alln ?_
      rintro v3 hv3 ⟨r1, PP, rfl, rfl⟩
      have Y : Sy _ _ hv3 _ := Y.gr PP.fr
      clear PP
      refine ⟨_, rfl, ?_⟩
      have e2 : (endsP es p).2 = toH es m1 := by
        unfold endsP; dsimp only
        rw [← hlast, getD_of' hy1, Int.toNat_natCast]
      have hnn : Option.isNone r.a = false := by rw [hb3]; rfl
      refine ⟨fun l h' => ∃ (A' : Option Addr) (L' C' : Nat), l = [.slice A' L' C'] ∧ FoundS pH paths (hits es paths u v (n + 1)) A' L' C' ∧ Sy h [] h' [Ck.vob fB fO [.int .i64 g, .slice eA es.length eC, .slice oA outs.length oC, .slice bA br.length bC, .slice pA paths.length pC, .int .i64 k], Ck.vw eP eA es.length eC es, Ck.vrows eI oA outs.length oC oH outs, Ck.vw eI bA br.length bC br, Ck.vrows eI pA paths.length pC pH paths], ?_, ?_⟩
      · refine cnd_eq (fun q2 => ?_) fun q2 => ?_
        · have he : endsP es (paths.getD n []) = (u, v) := by rw [epn]; exact Prod.ext (e1.trans q1) (e2.trans q2)
          rcases F with ⟨f1, rfl, rfl, rfl⟩ | ⟨i, r', p', f1, f2, f3, rfl, rfl, rfl, f4⟩
          · refine cnd_not (fun q => by cases q) fun _ => ?_
            refine ⟨_, _, _, rfl, .inr ⟨n, r, p, ?_, hr, hx, rfl, rfl, rfl, hnn⟩, Y⟩
            rw [hits_succ, f1, if_pos he]; rfl
          · refine cnd_not (fun q => ?_) fun q => ?_
            · exact ⟨Y.pick [] rfl, .inl ⟨betw_two (by omega) f1 he, rfl⟩⟩
            · rw [f4] at q; cases q
        · have he : ¬ endsP es (paths.getD n []) = (u, v) := by rw [epn]; exact fun z => q2 (by rw [← e2, z])
          exact ⟨_, _, _, rfl, by rw [hits_succ, if_neg he, List.append_nil]; exact F, Y⟩
      · rintro A' L' C' hv4 ⟨_, _, _, e, F', Y⟩
        cases e
        exact back F' Y
    · have he : ¬ endsP es (paths.getD n []) = (u, v) := by rw [epn]; exact fun z => q1 (by rw [← e1, z])
      exact back (by rw [hits_succ, if_neg he, List.append_nil]; exact F) Y
  · have hnp : n = paths.length := by omega
    subst hnp
    refine ⟨Y.pick [] rfl, ?_⟩
    rcases F with ⟨f1, rfl, rfl, rfl⟩ | ⟨i, r', p', f1, f2, f3, rfl, rfl, rfl, f4⟩
    · exact .inl ⟨by unfold betw; rw [f1], rfl⟩
    · exact .inr ⟨i, r', p', by unfold betw; rw [f1], f2, f3, rfl, f4⟩
def Sel (es : Es) (paths : List (List Int)) (pairs : List (Int × Int)) (ix : List Nat) : Prop :=
  ∀ (j i : Nat) (q : Int × Int), ix[j]? = some i → pairs[j]? = some q → betw es paths q.1 q.2 = some i
theorem Sel.ends {es : Es} {paths : List (List Int)} {pairs : List (Int × Int)} {ix : List Nat} (s : Sel es paths pairs ix) {j i : Nat} {q : Int × Int} (hi : ix[j]? = some i) (hq : pairs[j]? = some q) : i < paths.length ∧ endsP es (paths.getD i []) = q :=
  betw_some (s j i q hi hq)
theorem Sel.nodup {es : Es} {paths : List (List Int)} {pairs : List (Int × Int)} {ix : List Nat} (s : Sel es paths pairs ix) (hl : ix.length ≤ pairs.length) (nd : pairs.Nodup) : ix.Nodup := by
  refine List.pairwise_iff_getElem.2 fun a b ha hb hab e => ?_
  have h1 := s.ends (List.getElem?_eq_getElem ha) (List.getElem?_eq_getElem (show a < pairs.length by omega))
  have h2 := s.ends (List.getElem?_eq_getElem hb) (List.getElem?_eq_getElem (show b < pairs.length by omega))
  rw [e] at h1
  exact List.pairwise_iff_getElem.1 nd a b (by omega) (by omega) hab (h1.2.symm.trans h2.2)
theorem okSettle {g k kind : Int} {es : Es} {outs paths : List (List Int)} {br : List Int} {pairs : List (Int × Int)} {R : Int → List (List Int) → Int → Prop} (hl : es.length ≤ 1000000) (hn : paths.length ≤ 1000000) (hp : ∀ p ∈ paths, HIn es p ∧ p.length ≤ 1000000)
    (nd : pairs.Nodup) (hq : pairs.length ≤ 1000000) (bad : (∃ q ∈ pairs, betw es paths q.1 q.2 = none) → R g paths k) (good : ∀ ix, ix.length = pairs.length → Sel es paths pairs ix → R g (ix.map fun i => paths.getD i []) kind) :
    Ok224 g es outs br paths k pairs kind R := by
  intro h fB eA eL eC oA oL oC oH bA bL bC pA pL pC pH qA qL qC H
  have Y : Sy h (owns [Ck.ob fB 190 [.int .i64 g, .slice eA eL eC, .slice oA oL oC, .slice bA bL bC, .slice pA pL pC, .int .i64 k], Ck.rows eI 40 3 pA pL pC pH paths]) h _ := Sy.startM H rfl
  obtain rfl := Y.lenV 1 rfl
  obtain rfl := Y.lenW 2 rfl
  obtain rfl := Y.lenV 3 rfl
  obtain rfl := Y.lenR 4 rfl
  obtain rfl := Y.lenV 5 rfl
  apply calls224
  unfold S224
  have Y : Sy h _ h [_, _, _, _, _, _, _] := Y.nilS eH 40
  refine ⟨fun l h' => ∃ (A : Option Addr) (L C : Nat) (ix : List Nat), l = [.slice A L C, .int .i64 (ix.length : Nat)] ∧ ix.length ≤ pairs.length ∧ Sel es paths pairs ix ∧
      Sy h (owns [Ck.ob fB 190 [.int .i64 g, .slice eA es.length eC, .slice oA outs.length oC, .slice bA br.length bC, .slice pA paths.length pC, .int .i64 k], Ck.rows eI 40 3 pA paths.length pC pH paths]) h' [Ck.ob fB 190 [.int .i64 g, .slice eA es.length eC, .slice oA outs.length oC, .slice bA br.length bC, .slice pA paths.length pC, .int .i64 k], Ck.vw eP eA es.length eC es, Ck.vrows eI oA outs.length oC oH outs, Ck.vw eI bA br.length bC br, Ck.rows eI 40 3 pA paths.length pC pH paths, Ck.vw eP qA pairs.length qC pairs, Ck.sl eH 40 A L C (ix.map fun i => pH.getD i ⟨none, 0, 0⟩)],
    fun l _ => (match l with | [_, .int _ x] => ((pairs.length : Int) - x).toNat | _ => 0), ⟨none, 0, 0, [], rfl, Nat.zero_le _, fun j i q hj => by simp at hj, Y⟩, ?_⟩
  rintro A L C _ hv ⟨_, _, _, ix, e, hix, hS, Y⟩
  cases e
  obtain rfl := Y.lenS 6 rfl
  refine cnd_dec (fun hlt => ?_) fun hlt => ?_
  · obtain ⟨b, o, hb, _, q, hx⟩ := Y.atV 5 rfl (i := ((ix.length : Nat) : Int)) (by omega) (by omega)
    refine ⟨b, o, hb, by omega, by omega, _, Y.cellV 5 rfl hb (t := 0) hx rfl, _, Y.cellV 5 rfl hb (t := 1) hx rfl, ?_⟩
    rw [Int.toNat_natCast] at hx
    intro hv2 hv3
    have Y : Sy _ _ hv3 [_, _, _, _, _, _, _, _] := (((Y.junk _).stJ 7 rfl _ _).stJ 7 rfl _ _)
    clear_value hv3
    refine callX_sy (okBetw hl hn hp (((Y.turn 0 rfl To.obvob).turn 4 rfl To.rowsv).pick [0, 1, 2, 3, 4] rfl).hp) (fun _ _ ⟨q, _⟩ => q.fr) (allc (fun h => by cases h) alln) ?_
    rintro w hv4 ⟨PP, hw⟩
    have Y : Sy _ _ hv4 [_, _, _, _, _, _, _, _] := Y.gr PP.fr
    clear PP
    rcases hw with ⟨hnone, rfl⟩ | ⟨i, r, p, hi, hr, hpx, rfl, hnn⟩
    · refine ⟨_, _, _, rfl, cnd_b' (fun _ => ?_) fun q => by cases q⟩
      exact ⟨_, _, _, _, _, _, _, Y.pick [0, 4] rfl, rfl, bad ⟨q, List.mem_of_getElem? hx, hnone⟩⟩
    · have hrl : p.length = r.n := Y.rowLenR 4 rfl hr hpx
      rw [hrl]
      refine ⟨_, _, _, rfl, cnd_b' (fun q => by rw [hnn] at q; cases q) fun _ => ?_⟩
      intro hv5
      have Y : Sy _ _ hv5 [_, _, _, _, _, _, _, _, _] := Y.junk _
      clear_value hv5
      have hml : (ix.map fun i => pH.getD i (⟨none, 0, 0⟩ : RowH)).length = ix.length := List.length_map ..
      refine ⟨_, Y.ownS 6 rfl, allc (Y.nJ 6 8 rfl rfl rfl) (allc (Y.nJ 6 7 rfl rfl rfl) alln), by omega, by simp [maxLen]; omega, ?_⟩
      intro sA sC hv7 ow fA gA gB
      have Y : Sy _ _ hv7 [_, _, _, _, _, _, _, _, _] := Y.appS 6 rfl ([r] : List RowH) ow fA gA rfl rfl
      rw [wr (by omega) (by omega)]
      refine ⟨⟨sA, _, sC, ix ++ [i], by rw [List.length_append, List.length_singleton, Int.natCast_add]; rfl, by simp; omega, fun j i' q' hj hq' => ?_, ?_⟩, by dsimp only; omega⟩
      · rcases app_get hj with ⟨rfl, rfl⟩ | ⟨_, hj⟩
        · obtain rfl := Option.some.inj (hx.symm.trans hq')
          exact hi
        · exact hS j i' q' hj hq'
      · have em : ((ix ++ [i]).map fun i => pH.getD i (⟨none, 0, 0⟩ : RowH)) = (ix.map fun i => pH.getD i ⟨none, 0, 0⟩) ++ [r] := by
          rw [List.map_append]
          simp [List.getD_eq_getElem?_getD, hr]
        rw [em]
        exact Y.pick [0, 1, 2, 3, 4, 5, 6] rfl
  · have hml : (ix.map fun i => pH.getD i (⟨none, 0, 0⟩ : RowH)).length = ix.length := List.length_map ..
    have hil : ix.length = pairs.length := by omega
    refine ⟨fB, 0, rfl, ⟨_, Y.cellO 0 rfl 4 rfl⟩, Y.freeO 0 rfl _, ?_⟩
    intro hv8
    have Y : Sy _ _ hv8 [_, _, _, _, _, _, _] := Y.stO 0 rfl 4 _
    clear_value hv8
    refine ⟨fB, 0, rfl, ⟨_, Y.cellO 0 rfl 5 rfl⟩, Y.freeO 0 rfl _, ?_⟩
    intro hv9
    have Y : Sy _ _ hv9 [_, _, _, _, _, _, _] := Y.stO 0 rfl 5 _
    clear_value hv9
    have Y : Sy _ _ hv9 [_, _, _, _, _, _, _] := Y.selR 4 6 rfl rfl (fun i hi => by
      obtain ⟨j, hj⟩ := List.mem_iff_getElem?.1 hi
      have hjl := (List.getElem?_eq_some_iff.1 hj).1
      exact (hS.ends hj (List.getElem?_eq_getElem (show j < pairs.length by omega))).1) (hS.nodup (by omega) nd) rfl
    exact ⟨_, _, _, _, _, _, _, Y.pick [0, 6] rfl, rfl, good ix hil hS⟩
end Go.Proofs.Ytmcloipjlihhlaa.N
