/- Law GraphMarks: going back to a mark undoes whatever was done. Conditions: none. -/
import Derived.Test.YtmcloipjlihhlaaNPlayP
import Derived.Test.YtmcloipjlihhlaaNEdges
import Derived.Test.YtmcloipjlihhlaaTMarks
set_option linter.unusedSimpArgs false
set_option linter.unusedVariables false
namespace Go.X
open Go.Proofs.Ytmcloipjlihhlaa
/-- What holds behind each call: the first mark leads back. -/
structure MInv (G1 : Gr) (U : RunS) (k i : Nat) : Prop where
  fit : Fit U.a (k + i)
  tr : G1.trail U.a
  head : ∃ t, U.a.marks = (1, 0) :: t
  few : U.a.marks.length ≤ 64
  ul : U.a.undo.length ≤ i * (k + 1000)
  d : U.b.fits i
  ms : U.ms.length ≤ i
theorem MInv.small {G1 : Gr} {U : RunS} {k i : Nat} (I : MInv G1 U k i) (hk : k ≤ 1000) (hi : i ≤ 100) : Small U := by
  have h1 := I.fit.l1
  have h2 := I.fit.l2
  have h3 : i * (k + 1000) ≤ 100 * 2000 := Nat.mul_le_mul hi (by omega)
  have h4 := I.ul
  have h5 := I.ms
  obtain ⟨d1, d2, d3⟩ := I.d
  exact ⟨by omega, by omega, by omega, I.few, fits_mono d1 (by omega), d2, fun m hm => fits_mono (d3 m hm) (by omega), by omega⟩
theorem MInv.play {G1 : Gr} {U : RunS} {k i : Nat} {o : Op4} {G' : Gr} {D' : RG} {aa bb ms : List Int} (I : MInv G1 U k i) (hk : k ≤ 1000) (hi : i ≤ 100) (p : PlayG U.a o G' aa) (q : PlayD U.b o D' bb) (hm : ms.length ≤ U.ms.length + 1) : MInv G1 ⟨G', D', ms⟩ k (i + 1) := by
  have hm5 := I.ms
  obtain ⟨t, ht⟩ := I.head
  have hne : U.a.marks ≠ [] := by rw [ht]; simp
  obtain ⟨hu, c⟩ := p.cls I.fit (by omega)
  have e2 : (i + 1) * (k + 1000) = i * (k + 1000) + (k + 1000) := Nat.succ_mul i (k + 1000)
  have hul : G'.undo.length ≤ (i + 1) * (k + 1000) := by
    have := I.ul
    omega
  have dd := q.fit I.d
  rcases c with rfl | ⟨g, F⟩ | ⟨-, hf, rfl⟩
  · exact ⟨I.fit.mono (by omega), I.tr, I.head, I.few, hul, dd, by show ms.length ≤ _; omega⟩
  · have l1 := F.l1
    have l2 := F.l2
    have gm := g.marks
    exact ⟨F.mono (by omega), I.tr.trans (g.trail hne I.fit.cnt (by omega) (by omega)), by rw [gm.1]; exact I.head, by rw [gm.1]; exact I.few, hul, dd, by show ms.length ≤ _; omega⟩
  · have eG : U.a.markG = U.a.wm (U.a.marks ++ [(w64 (U.a.last + 1), (U.a.undo.length : Int))]) (w64 (U.a.last + 1)) := rfl
    refine ⟨by rw [eG]; exact I.fit.wm.mono (by omega), by rw [eG]; exact I.tr.wm, ⟨t ++ [(w64 (U.a.last + 1), (U.a.undo.length : Int))], ?_⟩, ?_, hul, dd, by show ms.length ≤ _; omega⟩
    · show U.a.marks ++ _ = _
      rw [ht]; rfl
    · show (U.a.marks ++ _).length ≤ 64
      simp; omega
theorem MInv.keep {G1 : Gr} {U : RunS} {k i : Nat} (I : MInv G1 U k i) : MInv G1 U k (i + 1) := by
  have hu := I.ul
  have e2 : (i + 1) * (k + 1000) = i * (k + 1000) + (k + 1000) := Nat.succ_mul i (k + 1000)
  have hul : U.a.undo.length ≤ (i + 1) * (k + 1000) := Nat.le_trans hu (Nat.mul_le_mul_right (k + 1000) (Nat.le_succ i))
  have := I.ms
  obtain ⟨d1, d2, d3⟩ := I.d
  exact ⟨I.fit.mono (by omega), I.tr, I.head, I.few, hul, ⟨fits_mono d1 (by omega), d2, fun m hm => fits_mono (d3 m hm) (by omega)⟩, by omega⟩
end Go.X
namespace Go.Proofs.Ytmcloipjlihhlaa.N
open Go.Proofs.Ytmcloipjlihhlaa
open Go.X
theorem edL_len (G : Gr) (v : Int) : (G.edL v).length ≤ G.edges.length := by
  unfold Gr.edL
  split
  · exact atL_len _ _ _
  · simp
theorem edges_len (s : RS) (v : Int) : (s.edges v).length ≤ s.es.length := by
  unfold RS.edges
  rw [List.length_map]; exact List.length_filter_le _ _
/-- A call is played, whatever the document's graph. -/
theorem play_inv {G1 : Gr} {U : RunS} {k i : Nat} {o1 o2 o3 o4 : Int} (I : MInv G1 U k i) (hk : k ≤ 1000) (hi : i ≤ 100) (n11 : o1 ≠ 11) (n12 : o1 ≠ 12) : Ok108 U (o1, o2, o3, o4) (fun U' _ => MInv G1 U' k (i + 1)) := by
  have S := I.small hk hi
  refine okPlays S (fun G' D' aa bb p q => I.play hk hi p q ?_) (fun _ => okEdges ⟨by have := S.n; omega, by have := S.e; omega, by have := S.u; omega⟩ S.fit (Nat.le_trans (edL_len _ _) (by have := I.fit.l2; omega)) (Nat.le_trans (edges_len _ _) (Nat.le_trans S.fit.2 (by decide))) fun _ _ => I.keep) (fun q => absurd q n11) (fun q => absurd q n12) (fun _ => I.keep)
  by_cases h10 : o1 = 10
  · have : aa.length = 1 := by
      cases p <;> first | rfl | exact absurd h10 (by decide)
    rw [if_pos h10]; simp [this]
  · rw [if_neg h10]; omega
theorem ofNet_fit {m : Nat} {es : List (Int × Int)} (hm : m ≤ 200) (hl : es.length ≤ 200) (he : ∀ p ∈ es, (0 ≤ p.1 ∧ p.1 < (m : Int)) ∧ 0 ≤ p.2 ∧ p.2 < (m : Int)) : Fit (ofNet m es) 200 := by
  obtain ⟨l1, l2, l3⟩ := ofNet_len m es
  have e1 : (ofNet m es).ns.length = m := idsN_rep _ _
  have e2 : (ofNet m es).es.length = es.length := by
    have : ∀ (l : List (Int × Int)) (i : Nat), (lvE i (l.map fun p => (p.1 + 1, p.2 + 1, true))).length = l.length := by
      intro l
      induction l with
      | nil => intro i; rfl
      | cons x l ih => intro i; simp [lvE, ih]
    exact this _ _
  exact ⟨Gr.good.ofNet he, ⟨by rw [e1]; rfl, by rw [e2]; rfl⟩, by omega, by omega, by omega, by omega⟩
set_option maxHeartbeats 4000000 in
theorem GraphMarks_calls {n : Int} {es : List (Int × Int)} {ops : List Op4} (h : Heap) {a0 a1 : Option Addr} {l0 c0 l1 c1 : Nat} (hp : Hp h [Ck.vw eP a0 l0 c0 es, Ck.vw e4 a1 l1 c1 ops]) :
    CallsH Try.prog 25 #[.agg #[.int .i64 n, .slice a0 l0 c0], .slice a1 l1 c1] h fun v h' => Fr [] h h' ∧ v = .bool true := by
  have Y : Sy h [] h [_, _] := Sy.startM hp rfl
  obtain rfl := Y.lenV 0 rfl
  obtain rfl := Y.lenV 1 rfl
  apply calls25
  unfold S25
  intro hv
  have Y : Sy _ _ hv [_, _, _] := Y.junk _
  clear_value hv
  refine callX_sy (okBegun74 (R := fun r => r = true) rfl hv (Hp.nil _)) (fun _ _ ⟨_, p, _⟩ => p.fr) (allc (fun q => by cases q) alln) ?_
  rintro _ hv2 ⟨_, P, rfl, rfl⟩
  have Y : Sy _ _ hv2 [_, _, _] := Y.gr P.fr
  refine ⟨true, rfl, cnd_f rfl ?_⟩
  have cOf : Ok75 n es (fun w G e => (w = true ∧ e = 1) ∨ (w = false ∧ e = 0 ∧ mayB n es = true ∧ G = ofNet n.toNat es)) := okOf (fun _ => .inl ⟨rfl, rfl⟩) fun q => .inr ⟨rfl, rfl, q, rfl⟩
  refine callX_sy (cOf hv2 _ _ _ (Y.pick [0] rfl).hp) (fun _ _ ⟨_, _, _, _, _, p, _⟩ => p.fr) (allc (fun q => by cases q) alln) ?_
  rintro _ hv3 ⟨gB, gS, w, G, e, P, rfl, z⟩
  rcases z with ⟨rfl, rfl⟩ | ⟨rfl, rfl, q, rfl⟩
  · refine ⟨_, _, rfl, ?_⟩
    have F : Fr [] h hv3 := (Y.gr P.fr).fr
    exact cnd_t rfl (cnd_f rfl ⟨F, rfl⟩)
  obtain ⟨⟨g0, g1⟩, hl, he⟩ := mayB_iff.1 q
  obtain ⟨m, rfl⟩ := Int.eq_ofNat_of_zero_le g0
  rw [Int.toNat_natCast] at P
  have Y : Sy _ _ hv3 [_, _, _, Ck.gr gB gS (ofNet m es)] := Y.callV (cs' := [Ck.opt false (Ck.gr gB gS (ofNet m es))]) P ⟨rfl, trivial⟩
  refine ⟨_, _, rfl, cnd_f rfl (cnd_dec (fun _ => cnd_t rfl ⟨Y.fr, rfl⟩) fun q1 => cnd_dec (fun _ => cnd_t rfl ⟨Y.fr, rfl⟩) fun q2 => ?_)⟩
  have hm2 : m ≤ 200 := by omega
  have hl2 : es.length ≤ 200 := by omega
  have F0 := ofNet_fit hm2 hl2 fun p hp => endB_iff.1 (he p hp)
  obtain ⟨l1, l2, l3⟩ := ofNet_len m es
  have cM : Ok101 (ofNet m es) (fun G r => G = (ofNet m es).markG ∧ r = 1) := ok101 ⟨by omega, by omega, by omega⟩ (by show ([] : List (Int × Int)).length ≤ 64; decide) (fun z => absurd z (by show ¬ 64 ≤ ([] : List (Int × Int)).length; decide)) fun _ => ⟨rfl, rfl⟩
  have Y : Sy _ _ hv3 [_, _, _, _] := Y.pick [3, 0, 1, 2] rfl
  refine callX_sy (cM hv3 gB gS (Y.pick [0] rfl).hp) (fun _ _ ⟨_, _, _, p, _⟩ => p.fr) (allc (Y.nO 3 [0] rfl rfl) alln) ?_
  rintro _ hv5 ⟨gS2, G1, r2, P, rfl, rfl, rfl⟩
  have Y : Sy _ _ hv5 [_, _, _, _] := Y.call2 [0, 1, 2, 3] rfl (A := [_]) rfl rfl P ⟨rfl, trivial⟩
  refine ⟨_, rfl, ?_⟩
  intro hv6
  have Y : Sy _ _ hv6 [_, _, _, _, _] := Y.newO (ty := 155) [.slice none 0 0, .slice none 0 0, .int .i64 0, .int .i64 0, .slice none 0 0, .int .i64 0]
  clear_value hv6
  have Y : Sy _ _ hv6 [_, _, _, _, _, _] := Y.nilS eI 3
  have Y : Sy _ _ hv6 [_, _, _, _, _, _, _] := Y.nilS e3 239
  have Y : Sy _ _ hv6 [_, _, _, _, _, _, _, _] := Y.nilS eM 243
  have Y : Sy _ _ hv6 [_, _, _, _, _, _, _, _, Ck.sts []] := Y.addN (Ck.sts []) (fun p hp => by cases hp) rfl rfl
  have Y := Sy.packD (⟨⟨[], [], 0, 0⟩, [], 0⟩ : RG) (ps := []) rfl (B := [_, _, _, _]) (Y.pick [4, 5, 6, 7, 8, 0, 1, 2, 3] rfl)
  intro hv7
  have Y : Sy _ _ hv7 [_, _, _, _, _, _] := Y.newO (ty := 149) [.pointer (some ⟨gB, 0, none⟩), .pointer (some ⟨hv5.size, 0, none⟩), .slice none 0 0]
  clear_value hv7
  have Y : Sy _ _ hv7 [_, _, _, _, _, _, _] := Y.nilS eI 3
  -- [rg, gr, ops' net, ops, hidden, run, marks]
  obtain ⟨G1, hG1⟩ : ∃ G1, G1 = (ofNet m es).markG := ⟨_, rfl⟩
  have I0 : MInv G1 ⟨G1, ⟨⟨[], [], 0, 0⟩, [], 0⟩, []⟩ 200 0 := by
    subst hG1
    refine ⟨F0.wm, Gr.trail.refl _, ⟨[], rfl⟩, ?_, ?_, ⟨⟨by simp, by simp⟩, by simp, fun m hm => by cases hm⟩, by simp⟩
    · show ([] ++ [_] : List (Int × Int)).length ≤ 64; simp
    · show (ofNet m es).undo.length ≤ _; omega
  rw [← hG1] at Y
  have Y := Y.pick [5, 1, 0, 6, 2, 3, 4] rfl
  -- the end
  have done : ∀ (hx : Heap) (i : Nat) (U : RunS) (abs bbs : List Nat) (bb : Nat) (mA : Option Addr) (mL mC : Nat), i ≤ 60 → MInv G1 U 200 i → Sy h [] hx [Ck.ob hv6.size 149 [.pointer (some ⟨gB, 0, none⟩), .pointer (some ⟨bb, 0, none⟩), .slice mA mL mC], Ck.gr gB abs U.a, Ck.rg bb bbs U.b, Ck.sl eI 3 mA mL mC U.ms, Ck.vw eP a0 es.length c0 es, Ck.vw e4 a1 ops.length c1 ops, Ck.junk h.size] →
      callX Try.prog 104 #[.pointer (some ⟨gB, 0, none⟩), .int .i64 1] hx [h.size] fun v5 hv13 =>
            ∃ r4 : Int, v5 = .int .i64 r4 ∧
            cnd (r4 != (0 : Int))
              (Fr [] h hv13 ∧ (Value.bool false : Value) = .bool true)
              (callX Try.prog 79 #[.pointer (some ⟨gB, 0, none⟩)] hv13 [h.size] fun v6 hv14 =>
              ∃ ra : Int, ∃ (raA : Option Addr) (raL raC : Nat), ∃ (rbA : Option Addr) (rbL rbC : Nat), ∃ (rcA : Option Addr) (rcL rcC : Nat), v6 = .tuple #[.agg #[.int .i64 ra, .slice raA raL raC], .slice rbA rbL rbC, .slice rcA rcL rcC] ∧
              let hv15 : Heap := hv14.push (.cells #[.int .i64 0, .slice none 0 0] 26)
              let hv16 : Heap := hset (hset hv15 hv14.size 0 (.int .i64 ra)) hv14.size (0 + 1) (.slice raA raL raC)
              callX Try.prog 97 #[.pointer (some ⟨gB, 0, none⟩)] hv16 [hv14.size, h.size] fun v7 hv17 =>
              ∃ ra2 : Int, ∃ rb2 : Int, v7 = .tuple #[.int .i64 ra2, .int .i64 rb2] ∧
              callX Try.prog 40 #[.agg #[.int .i64 ra, .slice raA raL raC], .agg #[.int .i64 (m : Int), .slice a0 es.length c0]] hv17 [hv14.size, h.size] fun v8 hv18 =>
              ∃ r5 : Bool, v8 = .bool r5 ∧
              cnd r5
                (cnd (((rbL : Nat) : Int) == (m : Int))
                  (cnd (((rcL : Nat) : Int) == ((es.length : Nat) : Int))
                    (cnd (ra2 == (IntKind.i64.wrap ((m : Int) + (1 : Int))))
                      (Fr [] h hv18 ∧ (Value.bool (rb2 == (0 : Int)) : Value) = .bool true)
                      (Fr [] h hv18 ∧ (Value.bool false : Value) = .bool true))
                    (Fr [] h hv18 ∧ (Value.bool false : Value) = .bool true))
                  (Fr [] h hv18 ∧ (Value.bool false : Value) = .bool true))
                (Fr [] h hv18 ∧ (Value.bool false : Value) = .bool true)) := by
    intro hx i U abs bbs bb mA mL mC hi I Y
    have S := I.small (by omega) (by omega)
    obtain ⟨t, ht⟩ := I.head
    have g0u : G1.undo.length = 0 := by rw [hG1]; exact l3
    have cB : Ok104 U.a 1 (fun G r => r = 0 ∧ ∃ ms l, G = (ofNet m es).wm ms l) := by
      refine ok104 ⟨by have := S.n; omega, by have := S.e; omega, by have := S.u; omega⟩ S.m (fun q => absurd rfl (q (1, 0) (by rw [ht]; simp))) fun j d hj hno => ?_
      have j0 : j = 0 := by
        rcases Nat.eq_zero_or_pos j with q | q
        · exact q
        · exact absurd rfl (hno 0 (1, 0) q (by rw [ht]; rfl))
      subst j0
      rw [ht] at hj
      have d0 : d = 0 := by simpa using hj.symm
      subst d0
      obtain ⟨c1, c2⟩ := I.tr.gone (U.a.marks.take 1)
      rw [g0u] at c1 c2
      refine ⟨Int.le_refl 0, c1, rfl, U.a.marks.take 1, U.a.last, ?_⟩
      show Gr.unwind (U.a.undo.length - 0) _ = _
      rw [c2, hG1]; rfl
    have Y : Sy _ _ hx [_, _, _, _, _, _, _] := Y.pick [1, 0, 2, 3, 4, 5, 6] rfl
    refine callX_sy (cB hx gB abs (Y.pick [0] rfl).hp) (fun _ _ ⟨_, _, _, p, _⟩ => p.fr) (allc (Y.nO 6 [0] rfl rfl) alln) ?_
    rintro _ hv13 ⟨gS, G, r4, P, rfl, rfl, ms, l, rfl⟩
    have Y : Sy _ _ hv13 [_, _, _, _, _, _, _] := Y.call2 [0, 1, 2, 3, 4, 5, 6] rfl (A := [_]) rfl rfl P ⟨rfl, trivial⟩
    refine ⟨0, rfl, cnd_f rfl ?_⟩
    have en : netE ((ofNet m es).wm ms l).nodes ((ofNet m es).wm ms l).edges = es := by
      have := netE_of (n := m) (r := []) (es := es) fun p hp => endB_iff.1 (he p hp)
      rwa [List.append_nil] at this
    have ei : (idsN 0 ((ofNet m es).wm ms l).nodes).length = m := idsN_rep _ _
    have ee : (idsE 0 ((ofNet m es).wm ms l).edges).length = es.length := by
      have := congrArg List.length (idsE_lv (ofNet m es).edges 0)
      rw [List.length_map] at this
      have e2 : (ofNet m es).es.length = es.length := by
        have c := F0.cnt.2
        have : (ofNet m es).le = (es.length : Int) := rfl
        omega
      show (idsE 0 (ofNet m es).edges).length = _
      rw [this]; exact e2
    have cN : Ok79 ((ofNet m es).wm ms l) (fun G n' es' ia ie => G = (ofNet m es).wm ms l ∧ n' = m ∧ es' = es ∧ ia.length = m ∧ ie.length = es.length) := by
      refine ok79 ⟨by show (ofNet m es).nodes.length + 1 < _; omega, by show (ofNet m es).edges.length + 1 < _; omega, by show (ofNet m es).undo.length + 1 < _; omega⟩ F0.good.inR ⟨rfl, ?_, en, ei, ee⟩
      rw [ei]
    refine callX_sy (cN hv13 gB gS (Y.pick [0] rfl).hp) (fun _ _ ⟨_, _, _, _, _, _, _, _, _, _, _, _, _, _, _, p, _⟩ => p.fr) (allc (Y.nO 6 [0] rfl rfl) alln) ?_
    rintro _ hv14 ⟨gS2, G2, n2, eA, eL, eC, es2, iA, iL, iC, ia, kA, kL, kC, ie, P, rfl, rfl, rfl, rfl, li, le⟩
    have Y : Sy _ _ hv14 [_, _, _, _, _, _, _, _, _, _] := Y.call2 [0, 1, 2, 3, 4, 5, 6] rfl (A := [_]) rfl rfl P ⟨rfl, rfl, rfl, rfl, trivial⟩
    -- [gr, net, ids, ids, run, rg, marks, net, ops, hidden]
    obtain rfl := Y.lenS 1 rfl
    obtain rfl := Y.lenS 2 rfl
    obtain rfl := Y.lenS 3 rfl
    refine ⟨_, _, _, _, _, _, _, _, _, _, rfl, ?_⟩
    intro hv15
    have Y : Sy _ _ hv15 [_, _, _, _, _, _, _, _, _, _, _] := Y.junk _
    intro hv16
    have Y : Sy _ _ hv16 [_, _, _, _, _, _, _, _, _, _, _] := ((Y.stJ 10 rfl _ _).stJ 10 rfl _ _)
    clear_value hv16
    have lnm : ((ofNet m es2).wm ms l).ln = m := rfl
    have cA : Ok97 ((ofNet m es2).wm ms l) (fun _ r e => r = (m : Int) + 1 ∧ e = 0) := by
      refine ok97 ⟨by show (ofNet m es2).nodes.length + 1 < _; omega, by show (ofNet m es2).edges.length + 1 < _; omega, by show (ofNet m es2).undo.length + 1 < _; omega⟩ (fun q => by omega) fun _ => ⟨?_, rfl⟩
      show ((ofNet m es2).nodes.length : Int) + 1 = _
      omega
    refine callX_sy (cA hv16 gB gS2 (Y.pick [0] rfl).hp) (fun _ _ ⟨_, _, _, _, p, _⟩ => p.fr) (allc (Y.nO 10 [0] rfl rfl) (allc (Y.nO 9 [0] rfl rfl) alln)) ?_
    rintro _ hv17 ⟨gS3, G3, ra2, rb2, P, rfl, rfl, rfl⟩
    have Y : Sy _ _ hv17 [_, _, _, _, _, _, _, _, _, _, _] := Y.call2 [0, 1, 2, 3, 4, 5, 6, 7, 8, 9, 10] rfl (A := [_]) rfl rfl P ⟨rfl, trivial⟩
    refine ⟨_, _, rfl, ?_⟩
    have cS : Ok40 (m : Int) es2 (m : Int) es2 (fun r => r = true) := okSameK (by omega) rfl
    have Yv := Y.turn 1 rfl To.slvw
    refine callX_sy (cS hv17 _ _ _ _ _ _ (Yv.pick [1, 7] rfl).hp) (fun _ _ ⟨_, p, _⟩ => p.fr) (allc (fun q => by cases q) (allc (fun q => by cases q) alln)) ?_
    rintro _ hv18 ⟨_, P, rfl, rfl⟩
    have F : Fr [] h hv18 := (Y.gr P.fr).fr
    have hw : IntKind.i64.wrap ((m : Int) + 1) = (m : Int) + 1 := wr (by omega) (by omega)
    refine ⟨true, rfl, cnd_t rfl (cnd_t (by simp [li]) (cnd_t (by simp [le]) (cnd_t (by rw [hw]; simp) ⟨F, rfl⟩)))⟩
  refine ⟨fun lz h' => ∃ (i : Nat) (U : RunS) (abs bbs : List Nat) (bb : Nat) (mA : Option Addr) (mL mC : Nat), lz = [.int .i64 i] ∧ i ≤ 60 ∧ MInv G1 U 200 i ∧ Sy h [] h' [Ck.ob hv6.size 149 [.pointer (some ⟨gB, 0, none⟩), .pointer (some ⟨bb, 0, none⟩), .slice mA mL mC], Ck.gr gB abs U.a, Ck.rg bb bbs U.b, Ck.sl eI 3 mA mL mC U.ms, Ck.vw eP a0 es.length c0 es, Ck.vw e4 a1 ops.length c1 ops, Ck.junk h.size],
    mI (ops.length : Int), ⟨0, _, _, _, _, _, _, _, rfl, by decide, I0, Y⟩, ?_⟩
  rintro i hv8 ⟨i, U, abs, bbs, bb, mA, mL, mC, e, hi, I, Y⟩
  cases e
  have fin := done hv8 i U abs bbs bb mA mL mC hi I Y
  refine cnd_dec (fun q1 => cnd_dec (fun q2 => ?_) fun _ => fin) fun _ => fin
  have hw : IntKind.i64.wrap ((i : Int) + 1) = ((i + 1 : Nat) : Int) := by rw [wr (by omega) (by omega)]; rfl
  intro K2
  have k2 : ∀ (hx : Heap) (U' : RunS) (abs bbs : List Nat) (bb : Nat) (mA : Option Addr) (mL mC : Nat), MInv G1 U' 200 (i + 1) → Sy h [] hx [Ck.ob hv6.size 149 [.pointer (some ⟨gB, 0, none⟩), .pointer (some ⟨bb, 0, none⟩), .slice mA mL mC], Ck.gr gB abs U'.a, Ck.rg bb bbs U'.b, Ck.sl eI 3 mA mL mC U'.ms, Ck.vw eP a0 es.length c0 es, Ck.vw e4 a1 ops.length c1 ops, Ck.junk h.size] → K2 hx := by
    intro hx U' abs bbs bb mA mL mC I' Y'
    show _ ∧ _
    rw [hw]
    exact ⟨⟨i + 1, U', abs, bbs, bb, mA, mL, mC, rfl, by omega, I', Y'⟩, by simp only [mI]; omega⟩
  obtain ⟨ob, oo, hob, _, x, hx⟩ := Y.atV 5 rfl (i := (i : Int)) (by omega) q1
  obtain ⟨o1, o2, o3, o4⟩ := x
  have cell := fun {t : Nat} {v : Value} (hv : (e4.enc (o1, o2, o3, o4))[t]? = some v) => Y.cellV 5 rfl hob (t := t) hx hv
  refine ⟨ob, oo, hob, by omega, q1, o1, cell (t := 0) rfl, cnd_ne (fun n11 => ?_) fun _ => k2 _ U _ _ _ _ _ _ I.keep Y⟩
  refine ⟨ob, oo, hob, by omega, q1, o1, cell (t := 0) rfl, fun _ h' => ∃ (U' : RunS) (abs bbs : List Nat) (bb : Nat) (mA : Option Addr) (mL mC : Nat), MInv G1 U' 200 (i + 1) ∧ Sy h [] h' [Ck.ob hv6.size 149 [.pointer (some ⟨gB, 0, none⟩), .pointer (some ⟨bb, 0, none⟩), .slice mA mL mC], Ck.gr gB abs U'.a, Ck.rg bb bbs U'.b, Ck.sl eI 3 mA mL mC U'.ms, Ck.vw eP a0 es.length c0 es, Ck.vw e4 a1 ops.length c1 ops, Ck.junk h.size], cnd_ne (fun n12 => ?_) fun _ => ⟨U, _, _, _, _, _, _, I.keep, Y⟩, fun hv10 ⟨U', _, _, _, _, _, _, I', Y'⟩ => k2 _ U' _ _ _ _ _ _ I' Y'⟩
  refine ⟨ob, oo, hob, by omega, q1, o1, cell (t := 0) rfl, o2, cell (t := 1) rfl, o3, cell (t := 2) rfl, o4, cell (t := 3) rfl, ?_⟩
  have Yp := Sy.packU U (B := [_, _, _]) Y
  refine callX_sy (play_inv I (by omega) (by omega) n11 n12 hv8 hv6.size gB _ (Yp.pick [0] rfl).hp) (fun _ _ ⟨_, _, _, _, p, _⟩ => p.fr) (allc (Yp.nO 3 [0] rfl rfl) alln) ?_
  rintro _ hv9 ⟨ab', bs', U', r, P, hab, rfl, I'⟩
  obtain rfl := hab n12
  have Y : Sy _ _ hv9 [_, _, _, _] := Yp.call2 [0, 1, 2, 3] rfl (A := [_]) rfl rfl P ⟨rfl, trivial⟩
  obtain ⟨abs, bb, bbs, mA, mL, mC, Y⟩ := Y.openU
  exact ⟨r, rfl, U', abs, bbs, bb, mA, mL, mC, I', Y⟩
end Go.Proofs.Ytmcloipjlihhlaa.N
namespace Go.Proofs.Ytmcloipjlihhlaa
open Go.X in
theorem GraphMarks_ok {n : Int} {es : List (Int × Int)} {ops : List (Int × Int × Int × Int)} {h : Heap} {a0 a1 : Option Addr} {l0 c0 l1 c1 : Nat} (hp : Hp h [Ck.vw eP a0 l0 c0 es, Ck.vw e4 a1 l1 c1 ops]) :
    CallsH Try.prog 25 #[.agg #[.int .i64 n, .slice a0 l0 c0], .slice a1 l1 c1] h fun v h' => Fr [] h h' ∧ v = .bool true := N.GraphMarks_calls h hp
end Go.Proofs.Ytmcloipjlihhlaa
