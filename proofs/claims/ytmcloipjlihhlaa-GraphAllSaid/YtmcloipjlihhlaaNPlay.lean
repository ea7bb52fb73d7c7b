/- Law 4: a call played on both graphs. Conditions: none. -/
import Derived.Test.YtmcloipjlihhlaaNRg3
import Derived.Test.YtmcloipjlihhlaaNGrB
import Derived.Test.YtmcloipjlihhlaaNGrCopy
set_option linter.unusedSimpArgs false
set_option linter.unusedVariables false
namespace Go.X
/-- Both graphs, and the marks that were given. -/
structure RunS where
  a : Gr
  b : RG
  ms : List Int
def ruL (rb ab : Nat) (abs : List Nat) (bb : Nat) (bbs : List Nat) (mA : Option Addr) (mL mC : Nat) (U : RunS) : List Ck := [Ck.ob rb 149 [.pointer (some ⟨ab, 0, none⟩), .pointer (some ⟨bb, 0, none⟩), .slice mA mL mC], Ck.gr ab abs U.a, Ck.rg bb bbs U.b, Ck.sl eI 3 mA mL mC U.ms]
theorem ruL_nv (rb ab : Nat) (abs : List Nat) (bb : Nat) (bbs : List Nat) (mA : Option Addr) (mL mC : Nat) (U : RunS) : Nv (ruL rb ab abs bb bbs mA mL mC U) := ⟨rfl, rfl, rfl, rfl, trivial⟩
def Ck.ru (rb ab : Nat) (bs : List Nat) (U : RunS) : Ck :=
  ⟨bs, [], fun h => ∃ abs bb bbs mA mL mC, bs = owns (ruL rb ab abs bb bbs mA mL mC U) ∧ Hp h (ruL rb ab abs bb bbs mA mL mC U),
    fun h ⟨_, _, _, _, _, _, e, hp⟩ => ⟨by rw [e]; exact owns_lt hp, by simp⟩,
    fun h h' he _ ⟨_, _, _, _, _, _, e, hp⟩ => ⟨_, _, _, _, _, _, e, nv_fr (ruL_nv rb ab _ _ _ _ _ _ U) hp (by rw [← e]; exact he)⟩⟩
section
variable {h0 h h' : Heap} {M : List Nat} {B : List Ck} {rb ab : Nat} {bs : List Nat} {U : RunS}
theorem Sy.openU (Y : Sy h0 M h (Ck.ru rb ab bs U :: B)) : ∃ abs bb bbs mA mL mC, Sy h0 M h (Ck.ob rb 149 [.pointer (some ⟨ab, 0, none⟩), .pointer (some ⟨bb, 0, none⟩), .slice mA mL mC] :: Ck.gr ab abs U.a :: Ck.rg bb bbs U.b :: Ck.sl eI 3 mA mL mC U.ms :: B) := by
  obtain ⟨_, _, _, _, _, _, e, hp⟩ := Y.ok (k := 0) rfl
  exact ⟨_, _, _, _, _, _, Y.unpack (ruL_nv rb ab _ _ _ _ _ _ U) e hp⟩
theorem Sy.packU (U : RunS) {ab : Nat} {abs : List Nat} {bb : Nat} {bbs : List Nat} {mA : Option Addr} {mL mC : Nat} (Y : Sy h0 M h (Ck.ob rb 149 [.pointer (some ⟨ab, 0, none⟩), .pointer (some ⟨bb, 0, none⟩), .slice mA mL mC] :: Ck.gr ab abs U.a :: Ck.rg bb bbs U.b :: Ck.sl eI 3 mA mL mC U.ms :: B)) : Sy h0 M h (Ck.ru rb ab (owns (ruL rb ab abs bb bbs mA mL mC U)) U :: B) := by
  have Y : Sy h0 M h (ruL rb ab abs bb bbs mA mL mC U ++ B) := Y
  exact Y.pack rfl rfl ⟨_, _, _, _, _, _, rfl, ⟨fun k c hk => Y.hp.ok k c (appL hk), fun i j c d hij hi hj => Y.hp.ap i j c d hij (appL hi) (appL hj)⟩⟩
end
abbrev Op4 := Int × Int × Int × Int
/-- What a call makes of the graph, and what it answers. -/
inductive PlayG (G : Gr) : Op4 → Gr → List Int → Prop
  | n0 {a b c : Int} : 1024 ≤ G.ln → PlayG G (1, a, b, c) G [0, 3]
  | n1 {a b c : Int} : G.ln < 1024 → PlayG G (1, a, b, c) G.addN [(G.nodes.length : Int) + 1, 0]
  | e0 {a b c : Int} : (G.node a = false ∨ G.node b = false) → PlayG G (2, a, b, c) G [0, 2]
  | e2 {a b c : Int} : G.node a = true → G.node b = true → 3072 ≤ G.le → PlayG G (2, a, b, c) G [0, 3]
  | e1 {a b c : Int} : G.node a = true → G.node b = true → G.le < 3072 → PlayG G (2, a, b, c) (G.addE a b) [(G.edges.length : Int) + 1, 0]
  | d0 {a b c : Int} : G.node a = false → PlayG G (3, a, b, c) G [0, 2]
  | d1 {a b c : Int} : G.node a = true → PlayG G (3, a, b, c) (G.dropAll a) [((G.at a).length : Int), 0]
  | c0 {a b c : Int} : G.hasE a = false → PlayG G (4, a, b, c) G [2]
  | c1 {a b c : Int} : G.hasE a = true → PlayG G (4, a, b, c) (G.dropE a) [0]
  | s0 {a b c : Int} : G.hasE a = false → PlayG G (5, a, b, c) G [0, 0, 2]
  | s2 {a b c : Int} : G.hasE a = true → (1024 ≤ G.ln ∨ 3072 ≤ G.le) → PlayG G (5, a, b, c) G [0, 0, 3]
  | s1 {a b c : Int} : G.hasE a = true → G.ln < 1024 → G.le < 3072 → PlayG G (5, a, b, c) (G.splitG a) [(G.nodes.length : Int) + 1, (G.edges.length : Int) + 1, 0]
  | u0 {a b c : Int} : G.node a = false → PlayG G (6, a, b, c) G [0, 2]
  | u2 {a b c : Int} : G.node a = true → (∀ k f, G.at a = [k, f] → (G.edgeAt k).1 = (G.edgeAt k).2.1 ∨ (G.edgeAt f).1 = (G.edgeAt f).2.1) → PlayG G (6, a, b, c) G [0, 10]
  | u1 {a b c : Int} (k f : Int) : G.node a = true → G.at a = [k, f] → (G.edgeAt k).1 ≠ (G.edgeAt k).2.1 → (G.edgeAt f).1 ≠ (G.edgeAt f).2.1 → PlayG G (6, a, b, c) (G.unsplitG a k f) [k, 0]
  | m0 {a b c : Int} : (G.hasE a = false ∨ G.node c = false ∨ b < 0 ∨ 1 < b) → PlayG G (7, a, b, c) G [2]
  | m1 {a b c : Int} : G.hasE a = true → G.node c = true → 0 ≤ b → b ≤ 1 → PlayG G (7, a, b, c) (G.move a b c) [0]
  | x0 {a b c : Int} : G.hasE a = false → PlayG G (8, a, b, c) G [0, 0, 2]
  | x1 {a b c : Int} : G.hasE a = true → PlayG G (8, a, b, c) G [(G.edgeAt a).1, (G.edgeAt a).2.1, 0]
  | k0 {a b c : Int} : 64 ≤ G.marks.length → PlayG G (10, a, b, c) G [0]
  | k1 {a b c : Int} : G.marks.length < 64 → PlayG G (10, a, b, c) G.markG [w64 (G.last + 1)]
/-- And of the document's. -/
inductive PlayD (D : RG) : Op4 → RG → List Int → Prop
  | n {a b c : Int} : PlayD D (1, a, b, c) { D with s := D.s.addN.1 } [D.s.addN.2.1, D.s.addN.2.2]
  | e {a b c : Int} : PlayD D (2, a, b, c) { D with s := (D.s.addE a b).1 } [(D.s.addE a b).2.1, (D.s.addE a b).2.2]
  | d {a b c : Int} : PlayD D (3, a, b, c) { D with s := (D.s.dropN a).1 } [(D.s.dropN a).2.1, (D.s.dropN a).2.2]
  | c {a b c : Int} : PlayD D (4, a, b, c) { D with s := (D.s.dropE a).1 } [(D.s.dropE a).2]
  | s {a b c : Int} : PlayD D (5, a, b, c) { D with s := (D.s.split a).1 } [(D.s.split a).2.1, (D.s.split a).2.2.1, (D.s.split a).2.2.2]
  | u {a b c : Int} : PlayD D (6, a, b, c) { D with s := (D.s.unsplit a).1 } [(D.s.unsplit a).2.1, (D.s.unsplit a).2.2]
  | m {a b c : Int} : PlayD D (7, a, b, c) { D with s := (D.s.move a b c).1 } [(D.s.move a b c).2]
  | x {a b c : Int} : PlayD D (8, a, b, c) D [(D.s.ends a).1, (D.s.ends a).2.1, (D.s.ends a).2.2]
  | k0 {a b c : Int} : D.marks.length = 64 → PlayD D (10, a, b, c) D [0]
  | k1 {a b c : Int} : D.marks.length < 64 → PlayD D (10, a, b, c) D.markD [w64 (D.last + 1)]
open Go.Proofs.Ytmcloipjlihhlaa in
/-- Of a size that fits. -/
structure Small (U : RunS) : Prop where
  n : U.a.nodes.length ≤ 100000000
  e : U.a.edges.length ≤ 100000000
  u : U.a.undo.length ≤ 100000000
  m : U.a.marks.length ≤ 64
  fit : N.fits U.b.s 900000
  bm : U.b.marks.length ≤ 64
  fm : ∀ m ∈ U.b.marks, N.fits m.2 900000
  ms : U.ms.length ≤ 1000000
end Go.X
namespace Go.Proofs.Ytmcloipjlihhlaa.N
open Go.Proofs.Ytmcloipjlihhlaa
open Go.X
theorem cndL1 {a b : Int} {K : Bool → Prop} (z : K ([a] == [b])) : K (a == b) := by
  have : ([a] == [b]) = (a == b) := by simp [List.cons_beq_cons]
  rwa [this] at z
theorem cndL2 {a b c d : Int} {K : Bool → Prop} (z : K ([a, b] == [c, d])) : cnd (a == c) (K (b == d)) (K false) := by
  have : ([a, b] == [c, d]) = (a == c && b == d) := by simp [List.cons_beq_cons]
  rw [this] at z
  refine cnd_b (fun q => ?_) fun q => ?_
  · rw [q] at z; simpa using z
  · rw [q] at z; simpa using z
theorem cndL3 {a b e c d f : Int} {K : Bool → Prop} (z : K ([a, b, e] == [c, d, f])) : cnd (a == c) (cnd (b == d) (K (e == f)) (K false)) (K false) := by
  have : ([a, b, e] == [c, d, f]) = (a == c && (b == d && e == f)) := by simp [List.cons_beq_cons]
  rw [this] at z
  refine cnd_b (fun q => cnd_b (fun q2 => ?_) fun q2 => ?_) fun q => ?_
  · rw [q, q2] at z; simpa using z
  · rw [q, q2] at z; simpa using z
  · rw [q] at z; simpa using z
/-- (*run).edges -/
def Ok194 (U : RunS) (v : Int) (R : Bool → Prop) : Prop := ∀ (h : Heap) (rb ab : Nat) (bs : List Nat), Hp h [Ck.ru rb ab bs U] → CallsH Try.prog 194 #[.pointer (some ⟨rb, 0, none⟩), .int .i64 v] h fun w h' => ∃ bs' r, Sy h (owns [Ck.ru rb ab bs U]) h' [Ck.ru rb ab bs' U] ∧ w = .bool r ∧ R r
def Ok108 (U : RunS) (o : Op4) (R : RunS → Bool → Prop) : Prop := ∀ (h : Heap) (rb ab : Nat) (bs : List Nat), Hp h [Ck.ru rb ab bs U] → CallsH Try.prog 108 #[.pointer (some ⟨rb, 0, none⟩), .agg #[.int .i64 o.1, .int .i64 o.2.1, .int .i64 o.2.2.1, .int .i64 o.2.2.2]] h fun w h' => ∃ ab' bs' U' r, Sy h (owns [Ck.ru rb ab bs U]) h' [Ck.ru rb ab' bs' U'] ∧ (o.1 ≠ 12 → ab' = ab) ∧ w = .bool r ∧ R U' r
set_option maxHeartbeats 4000000 in
theorem okPlays {U : RunS} {o1 o2 o3 o4 : Int} {R : RunS → Bool → Prop} (S : Small U)
    (kS : ∀ G' D' aa bb, PlayG U.a (o1, o2, o3, o4) G' aa → PlayD U.b (o1, o2, o3, o4) D' bb → R ⟨G', D', if o1 = 10 then U.ms ++ aa else U.ms⟩ (aa == bb))
    (k9 : o1 = 9 → Ok194 U o2 (R U)) (k11 : o1 = 11 → ∀ n, ∃ (Qg : Gr → Int → Prop) (Qd : RG → Int → Prop), Ok104 U.a n Qg ∧ Ok196 U.b n Qd ∧ ∀ G' a D' b, Qg G' a → Qd D' b → R ⟨G', D', U.ms⟩ (a == b))
    (k12 : o1 = 12 → R U true) (kE : o1 ≠ 1 ∧ o1 ≠ 2 ∧ o1 ≠ 3 ∧ o1 ≠ 4 ∧ o1 ≠ 5 ∧ o1 ≠ 6 ∧ o1 ≠ 7 ∧ o1 ≠ 8 ∧ o1 ≠ 9 ∧ o1 ≠ 10 ∧ o1 ≠ 11 ∧ o1 ≠ 12 → R U true) : Ok108 U (o1, o2, o3, o4) R := by
  intro h rb ab bs hp
  have Y0 : Sy h _ h [_] := Sy.startM hp rfl
  obtain ⟨s1, s2, s3, s4, s5, s6, s7, s8⟩ := S
  obtain ⟨abs, bb, bbs, mA, mL, mC, Y⟩ := Y0.openU
  have Y : Sy h _ h [_, _, _, _] := Y
  obtain rfl := Y.lenS 3 rfl
  apply calls108
  unfold S108
  intro hv
  have Y : Sy _ _ hv [_, _, _, _, _] := Y.junk _
  have Y : Sy _ _ hv [_, _, _, _, _] := Y.pick [1, 2, 0, 3, 4] rfl
  have fin : ∀ {h' : Heap} {gS dS : List Nat} {mA' : Option Addr} {mL' mC' : Nat} (G' : Gr) (D' : RG) (ms' : List Int), Sy h (owns [Ck.ru rb ab bs U]) h' [Ck.gr ab gS G', Ck.rg bb dS D', Ck.ob rb 149 [.pointer (some ⟨ab, 0, none⟩), .pointer (some ⟨bb, 0, none⟩), .slice mA' mL' mC'], Ck.sl eI 3 mA' mL' mC' ms', Ck.junk h.size] → ∀ r, R ⟨G', D', ms'⟩ r → ∃ ab' bs' U' r', Sy h (owns [Ck.ru rb ab bs U]) h' [Ck.ru rb ab' bs' U'] ∧ (o1 ≠ 12 → ab' = ab) ∧ (Value.bool r : Value) = .bool r' ∧ R U' r' :=
    fun G' D' ms' Y r z => ⟨_, _, ⟨G', D', ms'⟩, r, Sy.packU ⟨G', D', ms'⟩ (B := []) (Y.pick [2, 0, 1, 3] rfl), fun _ => rfl, rfl, z⟩
  refine cnd_eq (fun q => ?_) fun q1 => ?_
  · subst q
    have cg : Ok97 U.a (fun G' ra rb2 => PlayG U.a (1, o2, o3, o4) G' [ra, rb2]) := ok97 ⟨by omega, by omega, by omega⟩ (fun c => .n0 c) fun c => .n1 c
    have cd : Ok186 U.b (fun D' sa sb => PlayD U.b (1, o2, o3, o4) D' [sa, sb]) := okD186 s5 .n
    refine ⟨rb, 0, rfl, _, Y.cellO 2 rfl 0 rfl, ?_⟩
    refine callX_sy (cg hv ab abs (Y.pick [0] rfl).hp) (fun _ _ ⟨_, _, _, _, p, _⟩ => p.fr) (allc (Y.nO 4 [0] rfl rfl) alln) ?_
    rintro _ hv4 ⟨gS, G', ra, rb2, P, rfl, zG⟩
    have Y : Sy _ _ hv4 [_, _, _, _, _] := Y.call2 [0, 1, 2, 3, 4] rfl (A := [_]) rfl rfl P ⟨rfl, trivial⟩
    refine ⟨ra, rb2, rfl, rb, 0, rfl, _, Y.cellO 2 rfl 1 rfl, ?_⟩
    refine callX_sy (cd hv4 bb bbs (Y.pick [1] rfl).hp) (fun _ _ ⟨_, _, _, _, p, _⟩ => p.fr) (allc (Y.nO 4 [1] rfl rfl) alln) ?_
    rintro _ hv5 ⟨dS, D', sa, sb, P, rfl, zD⟩
    have Y : Sy _ _ hv5 [_, _, _, _, _] := Y.call2 [1, 0, 2, 3, 4] rfl (A := [_]) rfl rfl P ⟨rfl, trivial⟩
    refine ⟨sa, sb, rfl, ?_⟩
    have z := kS G' D' _ _ zG zD
    rw [if_neg (by decide)] at z
    exact cndL2 (K := fun x => ∃ ab' bs' U' r', Sy h (owns [Ck.ru rb ab bs U]) hv5 [Ck.ru rb ab' bs' U'] ∧ (1 ≠ (12 : Int) → ab' = ab) ∧ (Value.bool x : Value) = .bool r' ∧ R U' r') (fin G' D' U.ms (Y.pick [1, 0, 2, 3, 4] rfl) _ z)
  refine cnd_eq (fun q => ?_) fun q2 => ?_
  · subst q
    have cg : Ok98 U.a o2 o3 (fun G' ra rb2 => PlayG U.a (2, o2, o3, o4) G' [ra, rb2]) := ok98 ⟨by omega, by omega, by omega⟩ (fun c => .e0 c) (fun a b c => .e2 a b c) fun a b c => .e1 a b c
    have cd : Ok187 U.b o2 o3 (fun D' sa sb => PlayD U.b (2, o2, o3, o4) D' [sa, sb]) := okD187 s5 .e
    refine ⟨owns [Ck.gr ab abs U.a], allc (Y.nO 4 [0] rfl rfl) alln, rb, 0, rfl, _, Y.cellO 2 rfl 0 rfl, ?_⟩
    refine callX_sy (cg hv ab abs (Y.pick [0] rfl).hp) (fun _ _ ⟨_, _, _, _, p, _⟩ => p.fr) (allc (Y.nO 4 [0] rfl rfl) alln) ?_
    rintro _ hv4 ⟨gS, G', ra, rb2, P, rfl, zG⟩
    have F := P.fr
    have Y : Sy _ _ hv4 [_, _, _, _, _] := Y.call2 [0, 1, 2, 3, 4] rfl (A := [_]) rfl rfl P ⟨rfl, trivial⟩
    refine ⟨ra, rb2, rfl, F, owns [Ck.rg bb bbs U.b], allc (Y.nO 4 [1] rfl rfl) alln, rb, 0, rfl, _, Y.cellO 2 rfl 1 rfl, ?_⟩
    refine callX_sy (cd hv4 bb bbs (Y.pick [1] rfl).hp) (fun _ _ ⟨_, _, _, _, p, _⟩ => p.fr) (allc (Y.nO 4 [1] rfl rfl) alln) ?_
    rintro _ hv5 ⟨dS, D', sa, sb, P, rfl, zD⟩
    have F := P.fr
    have Y : Sy _ _ hv5 [_, _, _, _, _] := Y.call2 [1, 0, 2, 3, 4] rfl (A := [_]) rfl rfl P ⟨rfl, trivial⟩
    refine ⟨sa, sb, rfl, F, ?_⟩
    have z := kS G' D' _ _ zG zD
    rw [if_neg (by decide)] at z
    exact cndL2 (K := fun x => ∃ ab' bs' U' r', Sy h (owns [Ck.ru rb ab bs U]) hv5 [Ck.ru rb ab' bs' U'] ∧ (2 ≠ (12 : Int) → ab' = ab) ∧ (Value.bool x : Value) = .bool r' ∧ R U' r') (fin G' D' U.ms (Y.pick [1, 0, 2, 3, 4] rfl) _ z)
  refine cnd_eq (fun q => ?_) fun q3 => ?_
  · subst q
    have cg : Ok99 U.a o2 (fun G' ra rb2 => PlayG U.a (3, o2, o3, o4) G' [ra, rb2]) := by
      have la : (U.a.at o2).length ≤ U.a.edges.length := atL_len _ _ _
      exact ok99 ⟨by omega, by omega, by omega⟩ (fun c => .d0 c) fun c => .d1 c
    have cd : Ok188 U.b o2 (fun D' sa sb => PlayD U.b (3, o2, o3, o4) D' [sa, sb]) := okD188 s5 .d
    refine ⟨owns [Ck.gr ab abs U.a], allc (Y.nO 4 [0] rfl rfl) alln, rb, 0, rfl, _, Y.cellO 2 rfl 0 rfl, ?_⟩
    refine callX_sy (cg hv ab abs (Y.pick [0] rfl).hp) (fun _ _ ⟨_, _, _, _, p, _⟩ => p.fr) (allc (Y.nO 4 [0] rfl rfl) alln) ?_
    rintro _ hv4 ⟨gS, G', ra, rb2, P, rfl, zG⟩
    have F := P.fr
    have Y : Sy _ _ hv4 [_, _, _, _, _] := Y.call2 [0, 1, 2, 3, 4] rfl (A := [_]) rfl rfl P ⟨rfl, trivial⟩
    refine ⟨ra, rb2, rfl, F, owns [Ck.rg bb bbs U.b], allc (Y.nO 4 [1] rfl rfl) alln, rb, 0, rfl, _, Y.cellO 2 rfl 1 rfl, ?_⟩
    refine callX_sy (cd hv4 bb bbs (Y.pick [1] rfl).hp) (fun _ _ ⟨_, _, _, _, p, _⟩ => p.fr) (allc (Y.nO 4 [1] rfl rfl) alln) ?_
    rintro _ hv5 ⟨dS, D', sa, sb, P, rfl, zD⟩
    have F := P.fr
    have Y : Sy _ _ hv5 [_, _, _, _, _] := Y.call2 [1, 0, 2, 3, 4] rfl (A := [_]) rfl rfl P ⟨rfl, trivial⟩
    refine ⟨sa, sb, rfl, F, ?_⟩
    have z := kS G' D' _ _ zG zD
    rw [if_neg (by decide)] at z
    exact cndL2 (K := fun x => ∃ ab' bs' U' r', Sy h (owns [Ck.ru rb ab bs U]) hv5 [Ck.ru rb ab' bs' U'] ∧ (3 ≠ (12 : Int) → ab' = ab) ∧ (Value.bool x : Value) = .bool r' ∧ R U' r') (fin G' D' U.ms (Y.pick [1, 0, 2, 3, 4] rfl) _ z)
  refine cnd_eq (fun q => ?_) fun q4 => ?_
  · subst q
    have cg : Ok102 U.a o2 (fun G' ra => PlayG U.a (4, o2, o3, o4) G' [ra]) := ok102 ⟨by omega, by omega, by omega⟩ (fun c => .c0 c) fun c => .c1 c
    have cd : Ok189 U.b o2 (fun D' sa => PlayD U.b (4, o2, o3, o4) D' [sa]) := okD189 s5 .c
    have Y0 := Y
    refine ⟨Mt _ [0, 1] [], allc (Y0.nMJ 4 [0, 1] [] rfl rfl) alln, rb, 0, rfl, Y0.nMo 2 [0, 1] [] rfl rfl (by simp [Ck.ob]), _, Y.cellO 2 rfl 0 rfl, rb, 0, rfl, Y0.nMo 2 [0, 1] [] rfl rfl (by simp [Ck.ob]), _, Y.cellO 2 rfl 1 rfl, ?_⟩
    have F := Y0.frM [0, 1] []
    refine callX_sy (cg hv ab abs (Y.pick [0] rfl).hp) (fun _ _ ⟨_, _, _, p, _⟩ => p.fr) (allc (Y.nO 4 [0] rfl rfl) alln) ?_
    rintro _ hv4 ⟨gS, G', ra, P, rfl, zG⟩
    have F := F.comp P.fr (inOwnC (Y0.inMo 0 [0, 1] [] rfl rfl) inOwnN)
    have Y : Sy _ _ hv4 [_, _, _, _, _] := Y.call2 [0, 1, 2, 3, 4] rfl (A := [_]) rfl rfl P ⟨rfl, trivial⟩
    refine ⟨ra, rfl, F, ?_⟩
    refine callX_sy (cd hv4 bb bbs (Y.pick [1] rfl).hp) (fun _ _ ⟨_, _, _, p, _⟩ => p.fr) (allc (Y.nO 4 [1] rfl rfl) alln) ?_
    rintro _ hv5 ⟨dS, D', sa, P, rfl, zD⟩
    have F := F.comp P.fr (inOwnC (Y0.inMo 1 [0, 1] [] rfl rfl) inOwnN)
    have Y : Sy _ _ hv5 [_, _, _, _, _] := Y.call2 [1, 0, 2, 3, 4] rfl (A := [_]) rfl rfl P ⟨rfl, trivial⟩
    refine ⟨sa, rfl, F, ?_⟩
    have z := kS G' D' _ _ zG zD
    rw [if_neg (by decide)] at z
    exact cndL1 (K := fun x => ∃ ab' bs' U' r', Sy h (owns [Ck.ru rb ab bs U]) hv5 [Ck.ru rb ab' bs' U'] ∧ (4 ≠ (12 : Int) → ab' = ab) ∧ (Value.bool x : Value) = .bool r' ∧ R U' r') (fin G' D' U.ms (Y.pick [1, 0, 2, 3, 4] rfl) _ z)
  refine cnd_eq (fun q => ?_) fun q5 => ?_
  · subst q
    have cg : Ok77 U.a o2 (fun G' ra rb2 rc => PlayG U.a (5, o2, o3, o4) G' [ra, rb2, rc]) := ok77 ⟨by omega, by omega, by omega⟩ (fun c => .s0 c) (fun a b => .s2 a b) fun a b c => .s1 a b c
    have cd : Ok190 U.b o2 (fun D' sa sb sc => PlayD U.b (5, o2, o3, o4) D' [sa, sb, sc]) := okD190 s5 .s
    refine ⟨owns [Ck.gr ab abs U.a], allc (Y.nO 4 [0] rfl rfl) alln, rb, 0, rfl, _, Y.cellO 2 rfl 0 rfl, ?_⟩
    refine callX_sy (cg hv ab abs (Y.pick [0] rfl).hp) (fun _ _ ⟨_, _, _, _, _, p, _⟩ => p.fr) (allc (Y.nO 4 [0] rfl rfl) alln) ?_
    rintro _ hv4 ⟨gS, G', ra, rb2, rc, P, rfl, zG⟩
    have F := P.fr
    have Y : Sy _ _ hv4 [_, _, _, _, _] := Y.call2 [0, 1, 2, 3, 4] rfl (A := [_]) rfl rfl P ⟨rfl, trivial⟩
    refine ⟨ra, rb2, rc, rfl, F, owns [Ck.rg bb bbs U.b], allc (Y.nO 4 [1] rfl rfl) alln, rb, 0, rfl, _, Y.cellO 2 rfl 1 rfl, ?_⟩
    refine callX_sy (cd hv4 bb bbs (Y.pick [1] rfl).hp) (fun _ _ ⟨_, _, _, _, _, p, _⟩ => p.fr) (allc (Y.nO 4 [1] rfl rfl) alln) ?_
    rintro _ hv5 ⟨dS, D', sa, sb, sc, P, rfl, zD⟩
    have F := P.fr
    have Y : Sy _ _ hv5 [_, _, _, _, _] := Y.call2 [1, 0, 2, 3, 4] rfl (A := [_]) rfl rfl P ⟨rfl, trivial⟩
    refine ⟨sa, sb, sc, rfl, F, ?_⟩
    have z := kS G' D' _ _ zG zD
    rw [if_neg (by decide)] at z
    exact cndL3 (K := fun x => ∃ ab' bs' U' r', Sy h (owns [Ck.ru rb ab bs U]) hv5 [Ck.ru rb ab' bs' U'] ∧ (5 ≠ (12 : Int) → ab' = ab) ∧ (Value.bool x : Value) = .bool r' ∧ R U' r') (fin G' D' U.ms (Y.pick [1, 0, 2, 3, 4] rfl) _ z)
  refine cnd_eq (fun q => ?_) fun q6 => ?_
  · subst q
    have cg : Ok78 U.a o2 (fun G' ra rb2 => PlayG U.a (6, o2, o3, o4) G' [ra, rb2]) := ok78 ⟨by omega, by omega, by omega⟩ (fun c => .u0 c) (fun a b => .u2 a b) (fun k f a b c d => .u1 k f a b c d) Gr.at_has
    have cd : Ok191 U.b o2 (fun D' sa sb => PlayD U.b (6, o2, o3, o4) D' [sa, sb]) := okD191 s5 .u
    refine ⟨owns [Ck.gr ab abs U.a], allc (Y.nO 4 [0] rfl rfl) alln, rb, 0, rfl, _, Y.cellO 2 rfl 0 rfl, ?_⟩
    refine callX_sy (cg hv ab abs (Y.pick [0] rfl).hp) (fun _ _ ⟨_, _, _, _, p, _⟩ => p.fr) (allc (Y.nO 4 [0] rfl rfl) alln) ?_
    rintro _ hv4 ⟨gS, G', ra, rb2, P, rfl, zG⟩
    have F := P.fr
    have Y : Sy _ _ hv4 [_, _, _, _, _] := Y.call2 [0, 1, 2, 3, 4] rfl (A := [_]) rfl rfl P ⟨rfl, trivial⟩
    refine ⟨ra, rb2, rfl, F, owns [Ck.rg bb bbs U.b], allc (Y.nO 4 [1] rfl rfl) alln, rb, 0, rfl, _, Y.cellO 2 rfl 1 rfl, ?_⟩
    refine callX_sy (cd hv4 bb bbs (Y.pick [1] rfl).hp) (fun _ _ ⟨_, _, _, _, p, _⟩ => p.fr) (allc (Y.nO 4 [1] rfl rfl) alln) ?_
    rintro _ hv5 ⟨dS, D', sa, sb, P, rfl, zD⟩
    have F := P.fr
    have Y : Sy _ _ hv5 [_, _, _, _, _] := Y.call2 [1, 0, 2, 3, 4] rfl (A := [_]) rfl rfl P ⟨rfl, trivial⟩
    refine ⟨sa, sb, rfl, F, ?_⟩
    have z := kS G' D' _ _ zG zD
    rw [if_neg (by decide)] at z
    exact cndL2 (K := fun x => ∃ ab' bs' U' r', Sy h (owns [Ck.ru rb ab bs U]) hv5 [Ck.ru rb ab' bs' U'] ∧ (6 ≠ (12 : Int) → ab' = ab) ∧ (Value.bool x : Value) = .bool r' ∧ R U' r') (fin G' D' U.ms (Y.pick [1, 0, 2, 3, 4] rfl) _ z)
  refine cnd_eq (fun q => ?_) fun q7 => ?_
  · subst q
    have cg : Ok103 U.a o2 o3 o4 (fun G' ra => PlayG U.a (7, o2, o3, o4) G' [ra]) := ok103 ⟨by omega, by omega, by omega⟩ (fun c => .m0 c) fun a b c d => .m1 a b c d
    have cd : Ok192 U.b o2 o3 o4 (fun D' sa => PlayD U.b (7, o2, o3, o4) D' [sa]) := okD192 s5 .m
    have Y0 := Y
    refine ⟨Mt _ [0, 1] [], allc (Y0.nMJ 4 [0, 1] [] rfl rfl) alln, rb, 0, rfl, Y0.nMo 2 [0, 1] [] rfl rfl (by simp [Ck.ob]), _, Y.cellO 2 rfl 0 rfl, rb, 0, rfl, Y0.nMo 2 [0, 1] [] rfl rfl (by simp [Ck.ob]), _, Y.cellO 2 rfl 1 rfl, ?_⟩
    have F := Y0.frM [0, 1] []
    refine callX_sy (cg hv ab abs (Y.pick [0] rfl).hp) (fun _ _ ⟨_, _, _, p, _⟩ => p.fr) (allc (Y.nO 4 [0] rfl rfl) alln) ?_
    rintro _ hv4 ⟨gS, G', ra, P, rfl, zG⟩
    have F := F.comp P.fr (inOwnC (Y0.inMo 0 [0, 1] [] rfl rfl) inOwnN)
    have Y : Sy _ _ hv4 [_, _, _, _, _] := Y.call2 [0, 1, 2, 3, 4] rfl (A := [_]) rfl rfl P ⟨rfl, trivial⟩
    refine ⟨ra, rfl, F, ?_⟩
    refine callX_sy (cd hv4 bb bbs (Y.pick [1] rfl).hp) (fun _ _ ⟨_, _, _, p, _⟩ => p.fr) (allc (Y.nO 4 [1] rfl rfl) alln) ?_
    rintro _ hv5 ⟨dS, D', sa, P, rfl, zD⟩
    have F := F.comp P.fr (inOwnC (Y0.inMo 1 [0, 1] [] rfl rfl) inOwnN)
    have Y : Sy _ _ hv5 [_, _, _, _, _] := Y.call2 [1, 0, 2, 3, 4] rfl (A := [_]) rfl rfl P ⟨rfl, trivial⟩
    refine ⟨sa, rfl, F, ?_⟩
    have z := kS G' D' _ _ zG zD
    rw [if_neg (by decide)] at z
    exact cndL1 (K := fun x => ∃ ab' bs' U' r', Sy h (owns [Ck.ru rb ab bs U]) hv5 [Ck.ru rb ab' bs' U'] ∧ (7 ≠ (12 : Int) → ab' = ab) ∧ (Value.bool x : Value) = .bool r' ∧ R U' r') (fin G' D' U.ms (Y.pick [1, 0, 2, 3, 4] rfl) _ z)
  refine cnd_eq (fun q => ?_) fun q8 => ?_
  · subst q
    have cg : Ok76 U.a o2 (fun G' ra rb2 rc => PlayG U.a (8, o2, o3, o4) G' [ra, rb2, rc]) := ok76 ⟨by omega, by omega, by omega⟩ (fun c => .x0 c) fun c => .x1 c
    have cd : Ok193 U.b o2 (fun D' sa sb sc => PlayD U.b (8, o2, o3, o4) D' [sa, sb, sc]) := okD193 s5 .x
    refine ⟨owns [Ck.gr ab abs U.a], allc (Y.nO 4 [0] rfl rfl) alln, rb, 0, rfl, _, Y.cellO 2 rfl 0 rfl, ?_⟩
    refine callX_sy (cg hv ab abs (Y.pick [0] rfl).hp) (fun _ _ ⟨_, _, _, _, _, p, _⟩ => p.fr) (allc (Y.nO 4 [0] rfl rfl) alln) ?_
    rintro _ hv4 ⟨gS, G', ra, rb2, rc, P, rfl, zG⟩
    have F := P.fr
    have Y : Sy _ _ hv4 [_, _, _, _, _] := Y.call2 [0, 1, 2, 3, 4] rfl (A := [_]) rfl rfl P ⟨rfl, trivial⟩
    refine ⟨ra, rb2, rc, rfl, F, owns [Ck.rg bb bbs U.b], allc (Y.nO 4 [1] rfl rfl) alln, rb, 0, rfl, _, Y.cellO 2 rfl 1 rfl, ?_⟩
    refine callX_sy (cd hv4 bb bbs (Y.pick [1] rfl).hp) (fun _ _ ⟨_, _, _, _, _, p, _⟩ => p.fr) (allc (Y.nO 4 [1] rfl rfl) alln) ?_
    rintro _ hv5 ⟨dS, D', sa, sb, sc, P, rfl, zD⟩
    have F := P.fr
    have Y : Sy _ _ hv5 [_, _, _, _, _] := Y.call2 [1, 0, 2, 3, 4] rfl (A := [_]) rfl rfl P ⟨rfl, trivial⟩
    refine ⟨sa, sb, sc, rfl, F, ?_⟩
    have z := kS G' D' _ _ zG zD
    rw [if_neg (by decide)] at z
    exact cndL3 (K := fun x => ∃ ab' bs' U' r', Sy h (owns [Ck.ru rb ab bs U]) hv5 [Ck.ru rb ab' bs' U'] ∧ (8 ≠ (12 : Int) → ab' = ab) ∧ (Value.bool x : Value) = .bool r' ∧ R U' r') (fin G' D' U.ms (Y.pick [1, 0, 2, 3, 4] rfl) _ z)
  refine cnd_eq (fun q => ?_) fun q9 => ?_
  · subst q
    have Y : Sy _ _ hv [_, _] := Sy.packU U (B := [_]) (Y.pick [2, 0, 1, 3, 4] rfl)
    refine callX_sy (k9 rfl hv rb ab _ (Y.pick [0] rfl).hp) (fun _ _ ⟨_, _, p, _⟩ => p.fr) (allc (Y.nO 1 [0] rfl rfl) alln) ?_
    rintro _ hv4 ⟨gS, r, P, rfl, z⟩
    have Y : Sy _ _ hv4 [_, _] := Y.call2 [0, 1] rfl (A := [_]) rfl rfl P ⟨rfl, trivial⟩
    exact ⟨r, rfl, _, _, U, r, Y.pick [0] rfl, fun _ => rfl, rfl, z⟩
  refine cnd_eq (fun q => ?_) fun q10 => ?_
  · subst q
    have cg : Ok101 U.a (fun G' ra => PlayG U.a (10, o2, o3, o4) G' [ra]) := ok101 ⟨by omega, by omega, by omega⟩ s4 (fun c => .k0 c) fun c => .k1 c
    have cd : Ok195 U.b (fun D' sa => PlayD U.b (10, o2, o3, o4) D' [sa]) := okD195 s5 s6 (fun c => .k0 c) fun c => .k1 c
    refine ⟨rb, 0, rfl, _, Y.cellO 2 rfl 0 rfl, ?_⟩
    refine callX_sy (cg hv ab abs (Y.pick [0] rfl).hp) (fun _ _ ⟨_, _, _, p, _⟩ => p.fr) (allc (Y.nO 4 [0] rfl rfl) alln) ?_
    rintro _ hv4 ⟨gS, G', ra, P, rfl, zG⟩
    have Y : Sy _ _ hv4 [_, _, _, _, _] := Y.call2 [0, 1, 2, 3, 4] rfl (A := [_]) rfl rfl P ⟨rfl, trivial⟩
    refine ⟨ra, rfl, rb, 0, rfl, _, _, _, Y.cellO 2 rfl 2 rfl, ?_⟩
    intro hv5
    have Y : Sy _ _ hv5 [_, _, _, _, _, _] := Y.junk _
    clear_value hv5
    refine ⟨_, Y.ownS 3 rfl, allc (Y.nJ 3 5 rfl rfl rfl) (allc (Y.nJ 3 4 rfl rfl rfl) alln), by omega, by simp [maxLen]; omega, ?_⟩
    intro sA sC hv6 ow fA gA gB
    have Y : Sy _ _ hv6 [_, _, _, _, _, _] := Y.appS 3 rfl ([ra] : List Int) ow fA gA rfl rfl
    refine ⟨rb, 0, rfl, Y.neJ 2 5 rfl rfl rfl (by simp [Ck.ob]), Y.neJ 2 4 rfl rfl rfl (by simp [Ck.ob]), ⟨_, Y.cellO 2 rfl 2 rfl⟩, Y.freeO 2 rfl _, ?_⟩
    intro hv7
    have Y : Sy _ _ hv7 [_, _, _, _, _, _] := Y.stO 2 rfl 2 _
    clear_value hv7
    refine ⟨rb, 0, rfl, _, Y.cellO 2 rfl 1 rfl, ?_⟩
    refine callX_sy (cd hv7 bb bbs (Y.pick [1] rfl).hp) (fun _ _ ⟨_, _, _, p, _⟩ => p.fr) (allc (Y.nO 5 [1] rfl rfl) (allc (Y.nO 4 [1] rfl rfl) alln)) ?_
    rintro _ hv8 ⟨dS, D', sa, P, rfl, zD⟩
    have Y : Sy _ _ hv8 [_, _, _, _, _, _] := Y.call2 [1, 0, 2, 3, 4, 5] rfl (A := [_]) rfl rfl P ⟨rfl, trivial⟩
    refine ⟨sa, rfl, ?_⟩
    have z := kS G' D' _ _ zG zD
    rw [if_pos rfl] at z
    exact cndL1 (K := fun x => ∃ ab' bs' U' r', Sy h (owns [Ck.ru rb ab bs U]) hv8 [Ck.ru rb ab' bs' U'] ∧ ((10 : Int) ≠ 12 → ab' = ab) ∧ (Value.bool x : Value) = .bool r' ∧ R U' r') (fin G' D' (U.ms ++ [ra]) (Y.pick [1, 0, 2, 3, 4] rfl) _ z)
  refine cnd_eq (fun q => ?_) fun q11 => ?_
  · subst q
    have Ym := Y
    have hmz : ∀ n : Int, ∃ (Qg : Gr → Int → Prop) (Qd : RG → Int → Prop), Ok104 U.a n Qg ∧ Ok196 U.b n Qd ∧ ∀ G' a D' b, Qg G' a → Qd D' b → R ⟨G', D', U.ms⟩ (a == b) := k11 rfl
    refine cnd_dec (fun c => ?_) fun c => ?_
    · refine ⟨rb, 0, rfl, _, _, _, Y.cellO 2 rfl 2 rfl, fun lz h' => ∃ m : Int, lz = [.int .i64 m] ∧ h' = hv, cnd_dec (fun c2 => ?_) fun c2 => ⟨_, rfl, rfl⟩, ?_⟩
      · have c' : 0 ≤ o2 := c
        have t0 : Int.tmod o2 (U.ms.length : Int) = o2 % (U.ms.length : Int) := Int.tmod_eq_emod_of_nonneg (by omega)
        have t1 := Int.emod_nonneg o2 (b := (U.ms.length : Int)) (by omega)
        have t2 := Int.emod_lt_of_pos o2 (b := (U.ms.length : Int)) (by omega)
        obtain ⟨mb, hb, _, x, hx⟩ := Y.atS 3 rfl (show 0 ≤ Int.tmod o2 (U.ms.length : Int) by omega) (by omega)
        exact ⟨[], by simp, rb, 0, rfl, _, _, _, Y.cellO 2 rfl 2 rfl, rb, 0, rfl, _, _, _, Y.cellO 2 rfl 2 rfl, by omega, mb, 0, hb, by dsimp only; omega, by dsimp only; omega, x, Y.cellS 3 rfl hb (t := 0) hx rfl, x, rfl, rfl⟩
      · rintro m _ ⟨m', e, rfl⟩
        cases e
        obtain ⟨Qg, Qd, cg, cd, z⟩ := hmz m
        have Y0 := Y
        refine ⟨Mt _ [0, 1] [], alln, rb, 0, rfl, Y0.nMo 2 [0, 1] [] rfl rfl (by simp [Ck.ob]), _, Y.cellO 2 rfl 0 rfl, rb, 0, rfl, Y0.nMo 2 [0, 1] [] rfl rfl (by simp [Ck.ob]), _, Y.cellO 2 rfl 1 rfl, ?_⟩
        have F := Y0.frM [0, 1] []
        refine callX_sy (cg hv ab abs (Y.pick [0] rfl).hp) (fun _ _ ⟨_, _, _, p, _⟩ => p.fr) alln ?_
        rintro _ hv4 ⟨gS, G', ra, P, rfl, zG⟩
        have F := F.comp P.fr (inOwnC (Y0.inMo 0 [0, 1] [] rfl rfl) inOwnN)
        have Y : Sy _ _ hv4 [_, _, _, _, _] := Y.call2 [0, 1, 2, 3, 4] rfl (A := [_]) rfl rfl P ⟨rfl, trivial⟩
        refine ⟨ra, rfl, F, ?_⟩
        refine callX_sy (cd hv4 bb bbs (Y.pick [1] rfl).hp) (fun _ _ ⟨_, _, _, p, _⟩ => p.fr) alln ?_
        rintro _ hv5 ⟨dS, D', sa, P, rfl, zD⟩
        have F := F.comp P.fr (inOwnC (Y0.inMo 1 [0, 1] [] rfl rfl) inOwnN)
        have Y : Sy _ _ hv5 [_, _, _, _, _] := Y.call2 [1, 0, 2, 3, 4] rfl (A := [_]) rfl rfl P ⟨rfl, trivial⟩
        refine ⟨sa, rfl, F, ?_⟩
        exact fin G' D' U.ms (Y.pick [1, 0, 2, 3, 4] rfl) _ (z _ _ _ _ zG zD)
    · obtain ⟨Qg, Qd, cg, cd, z⟩ := hmz o2
      have Y0 := Y
      refine ⟨Mt _ [0, 1] [], allc (Y0.nMJ 4 [0, 1] [] rfl rfl) alln, rb, 0, rfl, Y0.nMo 2 [0, 1] [] rfl rfl (by simp [Ck.ob]), _, Y.cellO 2 rfl 0 rfl, rb, 0, rfl, Y0.nMo 2 [0, 1] [] rfl rfl (by simp [Ck.ob]), _, Y.cellO 2 rfl 1 rfl, ?_⟩
      have F := Y0.frM [0, 1] []
      refine callX_sy (cg hv ab abs (Y.pick [0] rfl).hp) (fun _ _ ⟨_, _, _, p, _⟩ => p.fr) (allc (Y.nO 4 [0] rfl rfl) alln) ?_
      rintro _ hv4 ⟨gS, G', ra, P, rfl, zG⟩
      have F := F.comp P.fr (inOwnC (Y0.inMo 0 [0, 1] [] rfl rfl) inOwnN)
      have Y : Sy _ _ hv4 [_, _, _, _, _] := Y.call2 [0, 1, 2, 3, 4] rfl (A := [_]) rfl rfl P ⟨rfl, trivial⟩
      refine ⟨ra, rfl, F, ?_⟩
      refine callX_sy (cd hv4 bb bbs (Y.pick [1] rfl).hp) (fun _ _ ⟨_, _, _, p, _⟩ => p.fr) (allc (Y.nO 4 [1] rfl rfl) alln) ?_
      rintro _ hv5 ⟨dS, D', sa, P, rfl, zD⟩
      have F := F.comp P.fr (inOwnC (Y0.inMo 1 [0, 1] [] rfl rfl) inOwnN)
      have Y : Sy _ _ hv5 [_, _, _, _, _] := Y.call2 [1, 0, 2, 3, 4] rfl (A := [_]) rfl rfl P ⟨rfl, trivial⟩
      refine ⟨sa, rfl, F, ?_⟩
      exact fin G' D' U.ms (Y.pick [1, 0, 2, 3, 4] rfl) _ (z _ _ _ _ zG zD)
  refine ⟨fun _ h' => ∃ ab' bs', Sy h (owns [Ck.ru rb ab bs U]) h' [Ck.ru rb ab' bs' U] ∧ (o1 ≠ 12 → ab' = ab) ∧ R U true, cnd_eq (fun q => ?_) fun q => ⟨_, _, Sy.packU U (B := []) (Y.pick [2, 0, 1, 3] rfl), fun _ => rfl, kE ⟨by assumption, by assumption, by assumption, by assumption, by assumption, by assumption, by assumption, by assumption, by assumption, by assumption, by assumption, q⟩⟩, fun hv34 ⟨ab', bs', Y, q', z⟩ => ⟨ab', bs', U, true, Y, q', rfl, z⟩⟩
  subst q
  refine ⟨rb, 0, rfl, _, Y.cellO 2 rfl 0 rfl, ?_⟩
  refine callX_sy (copyG U.a ⟨by omega, by omega, by omega⟩ s4 hv ab abs (Y.pick [0] rfl).hp) (fun _ _ ⟨_, _, _, p, _⟩ => p.fr) (allc (Y.nO 4 [0] rfl rfl) alln) ?_
  rintro _ hv29 ⟨cb, cbs, abs', P, rfl⟩
  have Y : Sy _ _ hv29 [_, _, _, _, _, _] := Y.call2 [0, 1, 2, 3, 4] rfl (A := [_]) rfl rfl P ⟨rfl, rfl, trivial⟩
  -- [old graph, copy, document's, run, marks, hidden]
  have sm : ∀ (G' : Gr), G'.undo.length = U.a.undo.length → G'.nodes.length = U.a.nodes.length → G'.edges.length = U.a.edges.length → G'.marks.length = U.a.marks.length → True := fun _ _ _ _ _ => trivial
  refine ⟨_, rfl, cnd_f rfl ⟨rb, 0, rfl, _, Y.cellO 3 rfl 0 rfl, ?_⟩⟩
  obtain ⟨G1, hG1⟩ : ∃ G1, G1 = U.a.forget := ⟨_, rfl⟩
  have f1 : G1.nodes.length ≤ 100000000 ∧ G1.edges.length ≤ 100000000 ∧ G1.undo.length ≤ 100000000 ∧ G1.marks.length ≤ 64 := by subst hG1; exact ⟨s1, s2, by rw [Gr.forget_undo]; exact s3, s4⟩
  rw [← hG1] at Y
  have c1 : Ok97 G1 (fun G' _ _ => G'.nodes.length ≤ 100000001 ∧ G'.edges.length ≤ 100000000 ∧ G'.undo.length ≤ 100000001 ∧ G'.marks.length ≤ 64) := by
    refine ok97 ⟨by omega, by omega, by omega⟩ (fun _ => by omega) fun _ => ?_
    have := Gr.did_undo { G1 with nodes := G1.nodes ++ [true], ln := w64 (G1.ln + 1) } .popN
    exact ⟨by rw [Gr.addN_nlen]; omega, by rw [Gr.addN_elen]; omega, by show (Gr.did _ _).undo.length ≤ _; simp only at this; omega, by rw [Gr.addN_marks]; omega⟩
  refine callX_sy (c1 hv29 ab abs' (Y.pick [0] rfl).hp) (fun _ _ ⟨_, _, _, _, p, _⟩ => p.fr) (allc (Y.nO 5 [0] rfl rfl) alln) ?_
  rintro _ hv30 ⟨gS, G2, ra, rb2, P, rfl, f2⟩
  have Y : Sy _ _ hv30 [_, _, _, _, _, _] := Y.call2 [0, 1, 2, 3, 4, 5] rfl (A := [_]) rfl rfl P ⟨rfl, trivial⟩
  refine ⟨ra, rb2, rfl, rb, 0, rfl, _, Y.cellO 3 rfl 0 rfl, ?_⟩
  have c2 : Ok99 G2 1 (fun G' _ _ => G'.nodes.length ≤ 100000001 ∧ G'.edges.length ≤ 100000000 ∧ G'.undo.length ≤ 200000002 ∧ G'.marks.length ≤ 64) := by
    have la : (G2.at 1).length ≤ G2.edges.length := atL_len _ _ _
    refine ok99 ⟨by omega, by omega, by omega⟩ (fun _ => by omega) fun _ => ?_
    exact ⟨by rw [Gr.dropAll_nlen]; omega, by rw [Gr.dropAll_elen]; omega, by have := Gr.dropAll_ulen (G := G2) (v := 1); omega, by rw [Gr.dropAll_marks]; omega⟩
  refine callX_sy (c2 hv30 ab gS (Y.pick [0] rfl).hp) (fun _ _ ⟨_, _, _, _, p, _⟩ => p.fr) (allc (Y.nO 5 [0] rfl rfl) alln) ?_
  rintro _ hv31 ⟨gS2, G3, ra3, rb3, P, rfl, f3⟩
  have Y : Sy _ _ hv31 [_, _, _, _, _, _] := Y.call2 [0, 1, 2, 3, 4, 5] rfl (A := [_]) rfl rfl P ⟨rfl, trivial⟩
  refine ⟨ra3, rb3, rfl, rb, 0, rfl, _, Y.cellO 3 rfl 0 rfl, ?_⟩
  have c3 : Ok101 G3 (fun _ _ => True) := ok101 ⟨by omega, by omega, by omega⟩ f3.2.2.2 (fun _ => trivial) fun _ => trivial
  refine callX_sy (c3 hv31 ab gS2 (Y.pick [0] rfl).hp) (fun _ _ ⟨_, _, _, p, _⟩ => p.fr) (allc (Y.nO 5 [0] rfl rfl) alln) ?_
  rintro _ hv32 ⟨gS3, G4, ra4, P, rfl, -⟩
  have Y : Sy _ _ hv32 [_, _, _, _, _, _] := Y.call2 [0, 1, 2, 3, 4, 5] rfl (A := [_]) rfl rfl P ⟨rfl, trivial⟩
  refine ⟨ra4, rfl, rb, 0, rfl, Y.neJ 3 5 rfl rfl rfl (by simp [Ck.ob]), ⟨_, Y.cellO 3 rfl 0 rfl⟩, Y.freeO 3 rfl _, ?_⟩
  intro hv33
  have Y : Sy _ _ hv33 [_, _, _, _, _, _] := Y.stO 3 rfl 0 _
  exact ⟨_, _, Sy.packU U (B := []) (Y.pick [3, 1, 2, 4] rfl), fun q => absurd rfl q, k12 rfl⟩
end Go.Proofs.Ytmcloipjlihhlaa.N
