/- Package traceryref12, by hand over memory: six branch nodes with paths between them, in two threes or not. Conditions: none. -/
import Derived.Test.YtmcloipjlihhlaaYSto
import Derived.Test.YtmcloipjlihhlaaTKuraA
import Derived.Test.YtmcloipjlihhlaaNKuraG
import Derived.Test.YtmcloipjlihhlaaNTwin
set_option linter.unusedSimpArgs false
set_option linter.unusedVariables false
namespace Go.Proofs.Ytmcloipjlihhlaa.N
open Go.X Go.Proofs.Ytmcloipjlihhlaa
set_option maxRecDepth 100000

/-- A square of headers. -/
def matH (n : Nat) (w : Nat → Nat → RowH) : List (List RowH) := (List.range n).map fun i => (List.range n).map fun j => w i j
theorem mat_get {n i : Nat} {w : Nat → Nat → RowH} {x : List RowH} (h : (matH n w)[i]? = some x) : i < n ∧ x = (List.range n).map (w i) := by
  unfold matH at h
  have hi : i < n := by
    have := (List.getElem?_eq_some_iff.1 h).1
    simpa using this
  rw [List.getElem?_map, List.getElem?_range hi] at h
  exact ⟨hi, (Option.some.inj h).symm⟩
theorem matr_get {n j : Nat} {f : Nat → RowH} {y : RowH} (h : ((List.range n).map f)[j]? = some y) : j < n ∧ y = f j := by
  have hi : j < n := by
    have := (List.getElem?_eq_some_iff.1 h).1
    simpa using this
  rw [List.getElem?_map, List.getElem?_range hi] at h
  exact ⟨hi, (Option.some.inj h).symm⟩
def isOne (w : Nat → Nat → RowH) (i : Nat) : Bool := decide (i = 0) || (w 0 i).a.isNone
def cI (l : List Nat) : List Int := l.map fun n : Nat => (n : Int)
theorem cI_app (a b : List Nat) : cI (a ++ b) = cI a ++ cI b := by simp [cI]
theorem cI_len (a : List Nat) : (cI a).length = a.length := by simp [cI]
def oneL (w : Nat → Nat → RowH) (n : Nat) : List Nat := (List.range n).filter (isOne w)
def twoL (w : Nat → Nat → RowH) (n : Nat) : List Nat := (List.range n).filter fun i => !isOne w i
theorem oneL_lt {w : Nat → Nat → RowH} {n i : Nat} (h : i ∈ oneL w n) : i < n := List.mem_range.1 (List.mem_filter.1 h).1
theorem twoL_lt {w : Nat → Nat → RowH} {n i : Nat} (h : i ∈ twoL w n) : i < n := List.mem_range.1 (List.mem_filter.1 h).1
theorem oneL_step (w : Nat → Nat → RowH) (n : Nat) : oneL w (n + 1) = oneL w n ++ if isOne w n = true then [n] else [] := by
  unfold oneL
  rw [List.range_succ, List.filter_append]
  congr 1
  cases q : isOne w n <;> simp [q]
theorem twoL_step (w : Nat → Nat → RowH) (n : Nat) : twoL w (n + 1) = twoL w n ++ if isOne w n = true then [] else [n] := by
  unfold twoL
  rw [List.range_succ, List.filter_append]
  congr 1
  cases q : isOne w n <;> simp [q]
theorem two_len (w : Nat → Nat → RowH) : ∀ n, (oneL w n).length + (twoL w n).length = n
  | 0 => rfl
  | n + 1 => by
    have := two_len w n
    rw [oneL_step, twoL_step]
    cases q : isOne w n <;> simp <;> omega
theorem len1 {α : Type} {l : List α} {x : α} : (l ++ [x]).length = l.length + 1 := by simp
def nodesAt (nodes : List Int) (l : List Nat) : List Int := l.map fun i => nodes.getD i 0
theorem nodesAt_app (nodes : List Int) (a b : List Nat) : nodesAt nodes (a ++ b) = nodesAt nodes a ++ nodesAt nodes b := by simp [nodesAt]
def pairH (w : Nat → Nat → RowH) (a b : List Nat) : List RowH := a.flatMap fun i => b.map fun k => w i k
theorem pairH_app (w : Nat → Nat → RowH) (a a' b : List Nat) : pairH w (a ++ a') b = pairH w a b ++ pairH w a' b := by simp [pairH]
theorem pairH_one (w : Nat → Nat → RowH) (i : Nat) (b : List Nat) : pairH w [i] b = b.map (w i) := by simp [pairH]
theorem take_step {α : Type} {l : List α} {n : Nat} {x : α} (h : l[n]? = some x) : l.take (n + 1) = l.take n ++ [x] := by rw [List.take_add_one, h]; rfl
set_option maxHeartbeats 2000000 in
theorem okSides {nodes : List Int} (hn : nodes.length = 6) {w : Nat → Nat → RowH} {h : Heap} {nA : Option Addr} {nL nC : Nat} {wA : Option Addr} {wL wC : Nat} {wH : List RowH} (H : Hp h [Ck.vw eI nA nL nC nodes, Ck.vrows eH wA wL wC wH (matH 6 w)]) :
    CallsH Try.prog 155 #[.slice nA nL nC, .slice wA wL wC] h fun v h' =>
      (((oneL w 6).length ≠ 3 ∨ ∃ i ∈ oneL w 6, ∃ k ∈ twoL w 6, (w i k).a.isNone = true) ∧ v = .tuple #[.int .i64 0, .slice none 0 0, .slice none 0 0] ∧ Sy h [] h' []) ∨
      (((oneL w 6).length = 3 ∧ ∀ i ∈ oneL w 6, ∀ k ∈ twoL w 6, (w i k).a.isNone = false) ∧ ∃ (lA : Option Addr) (lC : Nat) (pA : Option Addr) (pC : Nat),
        Sy h [] h' [Ck.sl eI 3 lA (nodesAt nodes (oneL w 6 ++ twoL w 6)).length lC (nodesAt nodes (oneL w 6 ++ twoL w 6)), Ck.sl eH 40 pA (pairH w (oneL w 6) (twoL w 6)).length pC (pairH w (oneL w 6) (twoL w 6))] ∧
        v = .tuple #[.int .i64 33, .slice lA (nodesAt nodes (oneL w 6 ++ twoL w 6)).length lC, .slice pA (pairH w (oneL w 6) (twoL w 6)).length pC]) := by
  have Y : Sy h [] h _ := Sy.startM H rfl
  obtain rfl := Y.lenV 0 rfl
  obtain rfl := Y.lenW 1 rfl
  have hml : (matH 6 w).length = 6 := by simp [matH]
  apply calls155
  unfold S155
  have Y : Sy h [] h [_, _, _] := Y.nilS eI 3
  have Y : Sy h [] h [_, _, _, _] := Y.nilS eI 3
  refine ⟨fun lz h' => ∃ (oA : Option Addr) (oC : Nat) (tA : Option Addr) (tC : Nat) (n : Nat), lz = [.slice oA (cI (oneL w n)).length oC, .slice tA (cI (twoL w n)).length tC, .int .i64 (n : Int)] ∧ n ≤ 6 ∧
      Sy h [] h' [Ck.vw eI nA nodes.length nC nodes, Ck.vrows eH wA (matH 6 w).length wC wH (matH 6 w), Ck.sl eI 3 oA (cI (oneL w n)).length oC (cI (oneL w n)), Ck.sl eI 3 tA (cI (twoL w n)).length tC (cI (twoL w n))],
    fun lz _ => (match lz with | [_, _, .int _ x] => ((6 : Int) - x).toNat | _ => 0), ⟨none, 0, none, 0, 0, rfl, by decide, Y⟩, ?_⟩
  rintro oA oL oC tA tL tC _ hv ⟨_, _, _, _, n, e, hn6, Y⟩
  cases e
  have l1 := two_len w n
  have c1 := cI_len (oneL w n)
  have c2 := cI_len (twoL w n)
  refine cnd_dec (fun hlt => ?_) fun hlt => ?_
  · have hn5 : n < 6 := by omega
    rw [wr (x := (n : Int) + 1) (by omega) (by omega)]
    have lt : ((6 : Int) - ((n : Int) + 1)).toNat < ((6 : Int) - (n : Int)).toNat := by omega
    have one : ∀ {h' : Heap} {A : Option Addr} {C : Nat}, isOne w n = true → Sy h [] h' [Ck.vw eI nA nodes.length nC nodes, Ck.vrows eH wA (matH 6 w).length wC wH (matH 6 w), Ck.sl eI 3 A ((cI (oneL w n)).length + 1) C (cI (oneL w n) ++ [(n : Int)]), Ck.sl eI 3 tA (cI (twoL w n)).length tC (cI (twoL w n))] →
        ∃ (oA : Option Addr) (oC : Nat) (tA' : Option Addr) (tC' : Nat) (n' : Nat), [Value.slice A ((cI (oneL w n)).length + 1) C, .slice tA (cI (twoL w n)).length tC, .int .i64 ((n : Int) + 1)] = [.slice oA (cI (oneL w n')).length oC, .slice tA' (cI (twoL w n')).length tC', .int .i64 (n' : Int)] ∧ n' ≤ 6 ∧
          Sy h [] h' [Ck.vw eI nA nodes.length nC nodes, Ck.vrows eH wA (matH 6 w).length wC wH (matH 6 w), Ck.sl eI 3 oA (cI (oneL w n')).length oC (cI (oneL w n')), Ck.sl eI 3 tA' (cI (twoL w n')).length tC' (cI (twoL w n'))] := by
      intro h' A C q Y
      have e1 : cI (oneL w (n + 1)) = cI (oneL w n) ++ [(n : Int)] := by rw [oneL_step, if_pos q, cI_app]; rfl
      have e2 : cI (twoL w (n + 1)) = cI (twoL w n) := by rw [twoL_step, if_pos q, List.append_nil]
      refine ⟨A, C, tA, tC, n + 1, ?_, by omega, ?_⟩
      · rw [e1, e2, List.length_append]; rfl
      · rw [e1, e2, List.length_append]; exact Y
    have two : ∀ {h' : Heap} {A : Option Addr} {C : Nat}, isOne w n = false → Sy h [] h' [Ck.vw eI nA nodes.length nC nodes, Ck.vrows eH wA (matH 6 w).length wC wH (matH 6 w), Ck.sl eI 3 oA (cI (oneL w n)).length oC (cI (oneL w n)), Ck.sl eI 3 A ((cI (twoL w n)).length + 1) C (cI (twoL w n) ++ [(n : Int)])] →
        ∃ (oA' : Option Addr) (oC' : Nat) (tA' : Option Addr) (tC' : Nat) (n' : Nat), [Value.slice oA (cI (oneL w n)).length oC, .slice A ((cI (twoL w n)).length + 1) C, .int .i64 ((n : Int) + 1)] = [.slice oA' (cI (oneL w n')).length oC', .slice tA' (cI (twoL w n')).length tC', .int .i64 (n' : Int)] ∧ n' ≤ 6 ∧
          Sy h [] h' [Ck.vw eI nA nodes.length nC nodes, Ck.vrows eH wA (matH 6 w).length wC wH (matH 6 w), Ck.sl eI 3 oA' (cI (oneL w n')).length oC' (cI (oneL w n')), Ck.sl eI 3 tA' (cI (twoL w n')).length tC' (cI (twoL w n'))] := by
      intro h' A C q Y
      have e1 : cI (oneL w (n + 1)) = cI (oneL w n) := by rw [oneL_step, if_neg (by simp [q]), List.append_nil]
      have e2 : cI (twoL w (n + 1)) = cI (twoL w n) ++ [(n : Int)] := by rw [twoL_step, if_neg (by simp [q]), cI_app]; rfl
      refine ⟨oA, oC, A, C, n + 1, ?_, by omega, ?_⟩
      · rw [e1, e2, List.length_append]; rfl
      · rw [e1, e2, List.length_append]; exact Y
    refine cnd_eq (fun q0 => ?_) fun q0 => ?_
    · intro hv2
      have Y : Sy _ _ hv2 [_, _, _, _, _] := Y.junk _
      clear_value hv2
      refine ⟨_, Y.ownS 2 rfl, allc (Y.nJ 2 4 rfl rfl rfl) alln, by omega, by simp only [maxLen]; omega, ?_⟩
      intro sA sC hv3 ow fA gA gB
      have Y : Sy _ _ hv3 [_, _, _, _, _] := Y.appS 2 rfl ([(n : Int)] : List Int) ow fA gA rfl rfl
      exact ⟨one (by simp [isOne]; omega) (Y.pick [0, 1, 2, 3] rfl), lt⟩
    · obtain ⟨b, o, hb, _, x, hx, r, hr⟩ := Y.atW 1 rfl (i := 0) (by omega) (by omega)
      obtain ⟨_, ex⟩ := mat_get hx
      have hxl : x.length = 6 := by simp [ex]
      refine ⟨b, o, hb, by decide, by omega, _, _, _, Y.cellWR 1 rfl hb hr hx, ?_⟩
      obtain ⟨b2, o2, hb2, _, y, hy⟩ := Y.atRowW 1 rfl hr hx (i := (n : Int)) (by omega) (by omega)
      obtain ⟨_, ey⟩ := matr_get (ex ▸ hy)
      rw [Int.toNat_natCast, Int.toNat_zero] at ey
      refine ⟨b2, o2, hb2, by omega, by omega, _, _, _, Y.cellRowW 1 rfl hr hx hb2 (t := 0) hy rfl, ?_⟩
      refine ⟨fun lz h' => ∃ (oA : Option Addr) (oC : Nat) (tA : Option Addr) (tC : Nat) (n' : Nat), lz ++ [.int .i64 ((n : Int) + 1)] = [.slice oA (cI (oneL w n')).length oC, .slice tA (cI (twoL w n')).length tC, .int .i64 (n' : Int)] ∧ n' ≤ 6 ∧
          Sy h [] h' [Ck.vw eI nA nodes.length nC nodes, Ck.vrows eH wA (matH 6 w).length wC wH (matH 6 w), Ck.sl eI 3 oA (cI (oneL w n')).length oC (cI (oneL w n')), Ck.sl eI 3 tA (cI (twoL w n')).length tC (cI (twoL w n'))], ?_, ?_⟩
      · refine cnd_b' (fun q1 => ?_) fun q1 => ?_
        · intro hv2
          have Y : Sy _ _ hv2 [_, _, _, _, _] := Y.junk _
          clear_value hv2
          refine ⟨_, Y.ownS 2 rfl, allc (Y.nJ 2 4 rfl rfl rfl) alln, by omega, by simp only [maxLen]; omega, ?_⟩
          intro sA sC hv3 ow fA gA gB
          have Y : Sy _ _ hv3 [_, _, _, _, _] := Y.appS 2 rfl ([(n : Int)] : List Int) ow fA gA rfl rfl
          exact one (by unfold isOne; rw [← ey, q1, Bool.or_true]) (Y.pick [0, 1, 2, 3] rfl)
        · intro hv2
          have Y : Sy _ _ hv2 [_, _, _, _, _] := Y.junk _
          clear_value hv2
          refine ⟨_, Y.ownS 3 rfl, allc (Y.nJ 3 4 rfl rfl rfl) alln, by omega, by simp only [maxLen]; omega, ?_⟩
          intro sA sC hv3 ow fA gA gB
          have Y : Sy _ _ hv3 [_, _, _, _, _] := Y.appS 3 rfl ([(n : Int)] : List Int) ow fA gA rfl rfl
          exact two (by unfold isOne; rw [← ey, q1, Bool.or_false]; exact decide_eq_false fun z => q0 (by rw [z]; rfl)) (Y.pick [0, 1, 2, 3] rfl)
      · rintro A L C A' L' C' hv4 ⟨oA', oC', tA', tC', n', e, h6, Y⟩
        exact ⟨⟨oA', oC', tA', tC', n', e, h6, Y⟩, lt⟩
  have e6 : n = 6 := by omega
  subst e6
  refine cnd_neK (fun q3 => ?_) fun q3 => ?_
  · exact .inl ⟨.inl (by omega), rfl, Y.pick [] rfl⟩
  have o3 : (oneL w 6).length = 3 := by omega
  have t3 : (twoL w 6).length = 3 := by omega
  have Y : Sy h [] hv [_, _, _, _, _] := Y.nilS eH 40
  -- the paths
  refine ⟨fun lz h' => ∃ (pA : Option Addr) (pC : Nat) (n : Nat), lz = [.slice pA (pairH w ((oneL w 6).take n) (twoL w 6)).length pC, .int .i64 (n : Int)] ∧ n ≤ 3 ∧ (∀ i ∈ (oneL w 6).take n, ∀ k ∈ twoL w 6, (w i k).a.isNone = false) ∧
      Sy h [] h' [Ck.vw eI nA nodes.length nC nodes, Ck.vrows eH wA (matH 6 w).length wC wH (matH 6 w), Ck.sl eI 3 oA (cI (oneL w 6)).length oC (cI (oneL w 6)), Ck.sl eI 3 tA (cI (twoL w 6)).length tC (cI (twoL w 6)), Ck.sl eH 40 pA (pairH w ((oneL w 6).take n) (twoL w 6)).length pC (pairH w ((oneL w 6).take n) (twoL w 6))],
    fun lz _ => (match lz with | [_, .int _ x] => ((3 : Int) - x).toNat | _ => 0), ⟨none, 0, 0, rfl, by decide, fun i q => by simp at q, Y⟩, ?_⟩
  clear Y
  rintro pA pL pC _ hv2 ⟨_, _, n, e, hn3, ok, Y⟩
  cases e
  refine cnd_dec (fun hlt => ?_) fun hlt => ?_
  · have hn2 : n < 3 := by omega
    obtain ⟨i, hi⟩ : ∃ i, (oneL w 6)[n]? = some i := ⟨_, List.getElem?_eq_getElem (by omega)⟩
    have i6 : i < 6 := oneL_lt (List.mem_of_getElem? hi)
    have tk := take_step hi
    refine ⟨fun lz h' => ∃ (pA : Option Addr) (pC : Nat) (k : Nat), lz = [.slice pA (pairH w ((oneL w 6).take n) (twoL w 6) ++ ((twoL w 6).take k).map (w i)).length pC, .int .i64 (k : Int)] ∧ k ≤ 3 ∧ (∀ j ∈ (twoL w 6).take k, (w i j).a.isNone = false) ∧
        Sy h [] h' [Ck.vw eI nA nodes.length nC nodes, Ck.vrows eH wA (matH 6 w).length wC wH (matH 6 w), Ck.sl eI 3 oA (cI (oneL w 6)).length oC (cI (oneL w 6)), Ck.sl eI 3 tA (cI (twoL w 6)).length tC (cI (twoL w 6)), Ck.sl eH 40 pA (pairH w ((oneL w 6).take n) (twoL w 6) ++ ((twoL w 6).take k).map (w i)).length pC (pairH w ((oneL w 6).take n) (twoL w 6) ++ ((twoL w 6).take k).map (w i))],
      fun lz _ => (match lz with | [_, .int _ x] => ((3 : Int) - x).toNat | _ => 0), ⟨pA, pC, 0, by simp, by decide, fun k q => by simp at q, by simpa using Y⟩, ?_⟩
    clear Y
    rintro pA pL pC _ hv3 ⟨_, _, k, e, hk3, ok2, Y⟩
    cases e
    have plen : (pairH w ((oneL w 6).take n) (twoL w 6) ++ ((twoL w 6).take k).map (w i)).length ≤ 100 := by
      have : ∀ l : List Nat, (pairH w l (twoL w 6)).length = l.length * 3 := by
        intro l
        induction l with
        | nil => rfl
        | cons a l ih =>
          have e : pairH w (a :: l) (twoL w 6) = (twoL w 6).map (w a) ++ pairH w l (twoL w 6) := rfl
          rw [e, List.length_append, ih, List.length_map, t3, List.length_cons]; omega
      rw [List.length_append, this, List.length_map, List.length_take, List.length_take]; omega
    refine cnd_dec (fun hlt2 => ?_) fun hlt2 => ?_
    · have hk2 : k < 3 := by omega
      obtain ⟨j, hj⟩ : ∃ j, (twoL w 6)[k]? = some j := ⟨_, List.getElem?_eq_getElem (by omega)⟩
      have j6 : j < 6 := twoL_lt (List.mem_of_getElem? hj)
      have ci : (cI (oneL w 6))[Int.toNat (n : Int)]? = some (i : Int) := by rw [Int.toNat_natCast]; unfold cI; rw [List.getElem?_map, hi]; rfl
      have cj : (cI (twoL w 6))[Int.toNat (k : Int)]? = some (j : Int) := by rw [Int.toNat_natCast]; unfold cI; rw [List.getElem?_map, hj]; rfl
      obtain ⟨b3, hb3, m3, _⟩ := Y.atS 2 rfl (i := (n : Int)) (by omega) (by omega)
      obtain ⟨b4, o4, hb4, m4, x, hx, r, hr⟩ := Y.atW 1 rfl (i := (i : Int)) (by omega) (by omega)
      obtain ⟨b5, hb5, m5, _⟩ := Y.atS 3 rfl (i := (k : Int)) (by omega) (by omega)
      rw [Int.toNat_natCast] at hx hr
      obtain ⟨_, ex⟩ := mat_get hx
      have hxl : x.length = 6 := by simp [ex]
      obtain ⟨b6, o6, hb6, m6, y, hy⟩ := Y.atRowW 1 rfl hr hx (i := (j : Int)) (by omega) (by omega)
      rw [Int.toNat_natCast] at hy
      obtain ⟨_, ey⟩ := matr_get (ex ▸ hy)
      subst ey
      have c4 := Y.cellWR 1 rfl hb4 hr hx
      have c6 := Y.cellRowW 1 rfl hr hx hb6 (t := 0) hy rfl
      refine ⟨b3, 0, hb3, by omega, by omega, _, Y.cellS 2 rfl hb3 (t := 0) ci rfl, b4, o4, hb4, by omega, by omega, _, _, _, by rw [Int.toNat_natCast]; exact c4, b5, 0, hb5, by omega, by omega, _, Y.cellS 3 rfl hb5 (t := 0) cj rfl, b6, o6, hb6, by omega, by omega, _, _, _, by rw [Int.toNat_natCast]; exact c6, ?_⟩
      refine cnd_b' (fun qn => ?_) fun qn => ?_
      · exact .inl ⟨.inr ⟨i, List.mem_of_getElem? hi, j, List.mem_of_getElem? hj, qn⟩, rfl, Y.pick [] rfl⟩
      · have nv : ∀ {q : Nat} {d : Ck}, ([Ck.vw eI nA nodes.length nC nodes, Ck.vrows eH wA (matH 6 w).length wC wH (matH 6 w), Ck.sl eI 3 oA (cI (oneL w 6)).length oC (cI (oneL w 6)), Ck.sl eI 3 tA (cI (twoL w 6)).length tC (cI (twoL w 6)), Ck.sl eH 40 pA (pairH w ((oneL w 6).take n) (twoL w 6) ++ ((twoL w 6).take k).map (w i)).length pC (pairH w ((oneL w 6).take n) (twoL w 6) ++ ((twoL w 6).take k).map (w i))] : List Ck)[q]? = some d → q ≠ 4 → ∀ z, z ∈ d.own ∨ z ∈ d.rd → z ∉ blkOf pA :=
          fun hq ne z hz q2 => by
            have := Y.hp.ap 4 _ _ _ (Ne.symm ne) rfl hq z q2
            rcases hz with hz | hz
            · exact this.1 hz
            · exact this.2 hz
        refine ⟨blkOf pA, (fun _ h => by cases h), b3, 0, hb3, by omega, by omega, nv (q := 2) rfl (by decide) b3 (.inl m3), _, Y.cellS 2 rfl hb3 (t := 0) ci rfl, b4, o4, hb4, by omega, by omega, nv (q := 1) rfl (by decide) b4 (.inr m4), _, _, _, by rw [Int.toNat_natCast]; exact c4,
          b5, 0, hb5, by omega, by omega, nv (q := 3) rfl (by decide) b5 (.inl m5), _, Y.cellS 3 rfl hb5 (t := 0) cj rfl, b6, o6, hb6, by omega, by omega, nv (q := 1) rfl (by decide) b6 (.inr m6), _, _, _, by rw [Int.toNat_natCast]; exact c6, ?_⟩
        intro hv4
        have F4 : Fr (blkOf pA) hv3 hv4 := (Fr.refl _ _).pushr _
        have Y : Sy h [] hv4 [_, _, _, _, _, _] := Y.junk _
        clear_value hv4
        refine ⟨F4, _, Y.ownS 4 rfl, allc (Y.nJ 4 5 rfl rfl rfl) alln, by omega, by simp only [maxLen]; omega, ?_⟩
        intro sA sC hv5 ow fA gA gB
        have Y : Sy _ _ hv5 [_, _, _, _, _, _] := Y.appS 4 rfl ([w i j] : List RowH) ow fA gA rfl rfl
        rw [wr (x := (k : Int) + 1) (by omega) (by omega)]
        have ek : (twoL w 6).take (k + 1) = (twoL w 6).take k ++ [j] := take_step hj
        have el : pairH w ((oneL w 6).take n) (twoL w 6) ++ ((twoL w 6).take (k + 1)).map (w i) = (pairH w ((oneL w 6).take n) (twoL w 6) ++ ((twoL w 6).take k).map (w i)) ++ [w i j] := by rw [ek, List.map_append, ← List.append_assoc]; rfl
        refine ⟨F4.trans fA, ⟨sA, sC, k + 1, ?_, by omega, fun z hz => ?_, ?_⟩, by dsimp only; omega⟩
        · rw [el, len1]; rfl
        · rw [ek] at hz
          rcases List.mem_append.1 hz with hz | hz
          · exact ok2 z hz
          · rcases List.mem_singleton.1 hz with rfl; exact qn
        · rw [el, len1]; exact Y.pick [0, 1, 2, 3, 4] rfl
    · have e3 : k = 3 := by omega
      subst e3
      have et : (twoL w 6).take 3 = twoL w 6 := List.take_of_length_le (by omega)
      rw [et] at Y ok2 ⊢
      rw [wr (x := (n : Int) + 1) (by omega) (by omega)]
      have el : pairH w ((oneL w 6).take (n + 1)) (twoL w 6) = pairH w ((oneL w 6).take n) (twoL w 6) ++ (twoL w 6).map (w i) := by rw [tk, pairH_app, pairH_one]
      refine ⟨⟨pA, pC, n + 1, by rw [el]; rfl, by omega, fun z hz => ?_, by rw [el]; exact Y⟩, by dsimp only; omega⟩
      rw [tk] at hz
      rcases List.mem_append.1 hz with hz | hz
      · exact ok z hz
      · rcases List.mem_singleton.1 hz with rfl; exact ok2
  have e3 : n = 3 := by omega
  subst e3
  have et : (oneL w 6).take 3 = oneL w 6 := List.take_of_length_le (by omega)
  rw [et] at Y ok ⊢
  have Y : Sy h [] hv2 [_, _, _, _, _, _] := Y.nilS eI 3
  -- the nodes
  refine ⟨fun lz h' => ∃ (lA : Option Addr) (lC : Nat) (n : Nat), lz = [.slice lA (nodesAt nodes ((oneL w 6).take n)).length lC, .int .i64 (n : Int)] ∧ n ≤ 3 ∧
      Sy h [] h' [Ck.vw eI nA nodes.length nC nodes, Ck.sl eI 3 oA (cI (oneL w 6)).length oC (cI (oneL w 6)), Ck.sl eI 3 tA (cI (twoL w 6)).length tC (cI (twoL w 6)), Ck.sl eH 40 pA (pairH w (oneL w 6) (twoL w 6)).length pC (pairH w (oneL w 6) (twoL w 6)), Ck.sl eI 3 lA (nodesAt nodes ((oneL w 6).take n)).length lC (nodesAt nodes ((oneL w 6).take n))],
    fun lz _ => (match lz with | [_, .int _ x] => ((3 : Int) - x).toNat | _ => 0), ⟨none, 0, 0, rfl, by decide, Y.pick [0, 2, 3, 4, 5] rfl⟩, ?_⟩
  clear Y
  rintro lA lL lC _ hv3 ⟨_, _, n, e, hn3, Y⟩
  cases e
  have nl : (nodesAt nodes ((oneL w 6).take n)).length ≤ 6 := by simp only [nodesAt, List.length_map, List.length_take]; omega
  refine cnd_dec (fun hlt => ?_) fun hlt => ?_
  · have hn2 : n < 3 := by omega
    obtain ⟨i, hi⟩ : ∃ i, (oneL w 6)[n]? = some i := ⟨_, List.getElem?_eq_getElem (by omega)⟩
    have i6 : i < 6 := oneL_lt (List.mem_of_getElem? hi)
    have ci : (cI (oneL w 6))[Int.toNat (n : Int)]? = some (i : Int) := by rw [Int.toNat_natCast]; unfold cI; rw [List.getElem?_map, hi]; rfl
    obtain ⟨b3, hb3, m3, _⟩ := Y.atS 1 rfl (i := (n : Int)) (by omega) (by omega)
    obtain ⟨b4, o4, hb4, m4, x, hx⟩ := Y.atV 0 rfl (i := (i : Int)) (by omega) (by omega)
    refine ⟨b3, 0, hb3, by omega, by omega, _, Y.cellS 1 rfl hb3 (t := 0) ci rfl, b4, o4, hb4, by omega, by omega, _, Y.cellV 0 rfl hb4 (t := 0) hx rfl, ?_⟩
    intro hv4
    have Y : Sy h [] hv4 [_, _, _, _, _, _] := Y.junk _
    clear_value hv4
    refine ⟨_, Y.ownS 4 rfl, allc (Y.nJ 4 5 rfl rfl rfl) alln, by omega, by simp only [maxLen]; omega, ?_⟩
    intro sA sC hv5 ow fA gA gB
    have Y : Sy _ _ hv5 [_, _, _, _, _, _] := Y.appS 4 rfl ([x] : List Int) ow fA gA rfl rfl
    rw [wr (x := (n : Int) + 1) (by omega) (by omega)]
    rw [Int.toNat_natCast] at hx
    have el : nodesAt nodes ((oneL w 6).take (n + 1)) = nodesAt nodes ((oneL w 6).take n) ++ [x] := by rw [take_step hi, nodesAt_app]; show _ ++ [nodes.getD i 0] = _; rw [getD_of' hx]
    exact ⟨⟨sA, sC, n + 1, by rw [el, len1]; rfl, by omega, by rw [el, len1]; exact Y.pick [0, 1, 2, 3, 4] rfl⟩, by dsimp only; omega⟩
  have e3 : n = 3 := by omega
  subst e3
  rw [et] at Y nl ⊢
  refine ⟨fun lz h' => ∃ (lA : Option Addr) (lC : Nat) (n : Nat), lz = [.slice lA (nodesAt nodes (oneL w 6 ++ (twoL w 6).take n)).length lC, .int .i64 (n : Int)] ∧ n ≤ 3 ∧
      Sy h [] h' [Ck.vw eI nA nodes.length nC nodes, Ck.sl eI 3 oA (cI (oneL w 6)).length oC (cI (oneL w 6)), Ck.sl eI 3 tA (cI (twoL w 6)).length tC (cI (twoL w 6)), Ck.sl eH 40 pA (pairH w (oneL w 6) (twoL w 6)).length pC (pairH w (oneL w 6) (twoL w 6)), Ck.sl eI 3 lA (nodesAt nodes (oneL w 6 ++ (twoL w 6).take n)).length lC (nodesAt nodes (oneL w 6 ++ (twoL w 6).take n))],
    fun lz _ => (match lz with | [_, .int _ x] => ((3 : Int) - x).toNat | _ => 0), ⟨lA, lC, 0, by simp, by decide, by simpa using Y⟩, ?_⟩
  clear Y
  rintro lA lL lC _ hv3 ⟨_, _, n, e, hn3, Y⟩
  cases e
  have nl : (nodesAt nodes (oneL w 6 ++ (twoL w 6).take n)).length ≤ 6 := by simp only [nodesAt, List.length_map, List.length_append, List.length_take]; omega
  refine cnd_dec (fun hlt => ?_) fun hlt => ?_
  · have hn2 : n < 3 := by omega
    obtain ⟨i, hi⟩ : ∃ i, (twoL w 6)[n]? = some i := ⟨_, List.getElem?_eq_getElem (by omega)⟩
    have i6 : i < 6 := twoL_lt (List.mem_of_getElem? hi)
    have ci : (cI (twoL w 6))[Int.toNat (n : Int)]? = some (i : Int) := by rw [Int.toNat_natCast]; unfold cI; rw [List.getElem?_map, hi]; rfl
    obtain ⟨b3, hb3, m3, _⟩ := Y.atS 2 rfl (i := (n : Int)) (by omega) (by omega)
    obtain ⟨b4, o4, hb4, m4, x, hx⟩ := Y.atV 0 rfl (i := (i : Int)) (by omega) (by omega)
    refine ⟨b3, 0, hb3, by omega, by omega, _, Y.cellS 2 rfl hb3 (t := 0) ci rfl, b4, o4, hb4, by omega, by omega, _, Y.cellV 0 rfl hb4 (t := 0) hx rfl, ?_⟩
    intro hv4
    have Y : Sy h [] hv4 [_, _, _, _, _, _] := Y.junk _
    clear_value hv4
    refine ⟨_, Y.ownS 4 rfl, allc (Y.nJ 4 5 rfl rfl rfl) alln, by omega, by simp only [maxLen]; omega, ?_⟩
    intro sA sC hv5 ow fA gA gB
    have Y : Sy _ _ hv5 [_, _, _, _, _, _] := Y.appS 4 rfl ([x] : List Int) ow fA gA rfl rfl
    rw [wr (x := (n : Int) + 1) (by omega) (by omega)]
    rw [Int.toNat_natCast] at hx
    have el : nodesAt nodes (oneL w 6 ++ (twoL w 6).take (n + 1)) = nodesAt nodes (oneL w 6 ++ (twoL w 6).take n) ++ [x] := by rw [take_step hi, ← List.append_assoc, nodesAt_app _ _ [i]]; show _ ++ [nodes.getD i 0] = _; rw [getD_of' hx]
    exact ⟨⟨sA, sC, n + 1, by rw [el, len1]; rfl, by omega, by rw [el, len1]; exact Y.pick [0, 1, 2, 3, 4] rfl⟩, by dsimp only; omega⟩
  have e3 : n = 3 := by omega
  subst e3
  have et2 : (twoL w 6).take 3 = twoL w 6 := List.take_of_length_le (by omega)
  rw [et2] at Y ⊢
  exact .inr ⟨⟨o3, ok⟩, lA, lC, pA, pC, Y.pick [4, 3] rfl, rfl⟩
end Go.Proofs.Ytmcloipjlihhlaa.N
