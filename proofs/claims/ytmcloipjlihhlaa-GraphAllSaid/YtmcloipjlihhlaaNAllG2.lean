/- Law GraphAll: the law. Conditions: none. -/
import Derived.Test.YtmcloipjlihhlaaNAllG
set_option linter.unusedSimpArgs false
set_option linter.unusedVariables false
namespace Go.Proofs.Ytmcloipjlihhlaa.N
open Go.Proofs.Ytmcloipjlihhlaa
open Go.X
theorem at_none {G : Gr} {v : Int} (g : G.good) (h : G.node v = false) : G.at v = [] := by
  rw [Gr.at_es]
  rw [List.map_eq_nil_iff, List.filter_eq_nil_iff]
  intro x hx
  obtain ⟨a, b⟩ := g x hx
  intro q
  simp only [Bool.or_eq_true, beq_iff_eq] at q
  rcases q with q | q
  · rw [q] at a; rw [Gr.node_iff.2 a] at h; cases h
  · rw [q] at b; rw [Gr.node_iff.2 b] at h; cases h
theorem edL_lenG (G : Gr) (v : Int) : (G.edL v).length ≤ G.edges.length := by
  unfold Gr.edL
  split
  · exact atL_len _ _ _
  · simp
theorem edges_lenG (s : RS) (v : Int) : (s.edges v).length ≤ s.es.length := by
  unfold RS.edges
  rw [List.length_map]; exact List.length_filter_le _ _
structure AInv (U : RunS) (k : Nat) : Prop where
  both : Both U.a U.b k
  ul : U.a.undo.length ≤ k * 1000
  ms : U.ms.length ≤ k
theorem AInv.small {U : RunS} {k : Nat} (I : AInv U k) (hk : k ≤ 1000) : Small U := by
  have F := I.both.fit
  have S := I.both.sim
  have l1 := F.l1
  have l2 := F.l2
  have n1 := F.n1
  have n2 := F.n2
  have h1 : k * 1000 ≤ 1000 * 1000 := Nat.mul_le_mul_right 1000 hk
  have h2 := I.ul
  have h3 := I.ms
  have h4 := I.both.few
  obtain ⟨Gs, C⟩ := I.both.ch
  have c1 := C.l1
  have c2 := C.l2
  refine ⟨by omega, by omega, by omega, h4, ⟨by rw [S.ns]; omega, by rw [S.es]; omega⟩, by omega, fun m hm => ?_, by omega⟩
  obtain ⟨i, hi, rfl⟩ := List.getElem_of_mem hm
  obtain ⟨q1, q2, q3⟩ := C.at' i _ _ _ (List.getElem?_eq_getElem (by omega)) (List.getElem?_eq_getElem (by omega)) (List.getElem?_eq_getElem hi)
  have m1 := q2.n1
  have m2 := q2.n2
  exact ⟨by rw [q3.ns]; omega, by rw [q3.es]; omega⟩
theorem AInv.next {U U' : RunS} {k : Nat} (I : AInv U k) (B : Both U'.a U'.b (k + 1)) (hu : U'.a.undo.length ≤ U.a.undo.length + 1000) (hm : U'.ms.length ≤ U.ms.length + 1) : AInv U' (k + 1) := by
  have h1 := I.ul
  have h2 := I.ms
  have e : (k + 1) * 1000 = k * 1000 + 1000 := Nat.succ_mul k 1000
  exact ⟨B, by omega, by omega⟩
/-- A call is played: both answer the same, and stay the same. -/
theorem play_all {U : RunS} {k : Nat} {o1 o2 o3 o4 : Int} (I : AInv U k) (hk : k ≤ 900) : Ok108 U (o1, o2, o3, o4) (fun U' r => r = true ∧ AInv U' (k + 1)) := by
  have S := I.small (by omega)
  have B := I.both
  have F := B.fit
  have keep : AInv U (k + 1) := I.next (B.stay (by omega)) (by omega) (by omega)
  have l2 := F.l2
  refine okPlays S (fun G' D' aa bb p q => ?_) (fun _ => okEdges ⟨by have := S.n; omega, by have := S.e; omega, by have := S.u; omega⟩ S.fit (Nat.le_trans (edL_lenG _ _) (by omega)) (Nat.le_trans (edges_lenG _ _) (Nat.le_trans S.fit.2 (by decide))) fun r z => ⟨z ?_, keep⟩) (fun q n => ?_) (fun q => ⟨rfl, keep⟩) (fun _ => ⟨rfl, keep⟩)
  · obtain ⟨e, B'⟩ := B.play (by omega) p q
    have hu := (p.cls F (by omega)).1
    refine ⟨by rw [e]; simp, I.next B' (by show G'.undo.length ≤ _; omega) ?_⟩
    show (if o1 = 10 then U.ms ++ aa else U.ms).length ≤ _
    by_cases h10 : o1 = 10
    · have : aa.length = 1 := by
        cases p <;> first | rfl | exact absurd h10 (by decide)
      rw [if_pos h10]; simp [this]
    · rw [if_neg h10]; omega
  · rw [B.sim.edges, Gr.edL]
    split
    · rfl
    · rename_i h
      rw [at_none F.good (by simpa using h)]
  · refine ⟨fun G' r => ((∀ m ∈ U.a.marks, m.1 ≠ n) ∧ r = 14 ∧ G' = U.a) ∨ ∃ i d, U.a.marks[i]? = some (n, d) ∧ (∀ (j : Nat) m, j < i → U.a.marks[j]? = some m → m.1 ≠ n) ∧ r = 0 ∧ G' = Gr.unwind (U.a.undo.length - d.toNat) { U.a with marks := U.a.marks.take (i + 1) },
      fun D' r => ((∀ m ∈ U.b.marks, m.1 ≠ n) ∧ r = 14 ∧ D' = U.b) ∨ ∃ i s, U.b.marks[i]? = some (n, s) ∧ (∀ (j : Nat) m, j < i → U.b.marks[j]? = some m → m.1 ≠ n) ∧ r = 0 ∧ D' = U.b.backD i s, ?_, ?_, ?_⟩
    · refine ok104 ⟨by have := S.n; omega, by have := S.e; omega, by have := S.u; omega⟩ S.m (fun h => .inl ⟨h, rfl, rfl⟩) fun i d h hno => ?_
      obtain ⟨d0, can, -⟩ := B.back h
      exact ⟨d0, can, .inr ⟨i, d, h, hno, rfl, rfl⟩⟩
    · exact okD196 S.bm S.fm (fun h => .inl ⟨h, rfl, rfl⟩) fun i s h hno => .inr ⟨i, s, h, hno, rfl, rfl⟩
    · rintro G' a D' b (⟨h1, rfl, rfl⟩ | ⟨i, d, h1, h2, rfl, rfl⟩) (⟨k1, rfl, rfl⟩ | ⟨j, s, k1, k2, rfl, rfl⟩)
      · exact ⟨rfl, keep⟩
      · exact absurd rfl ((B.find n).1 h1 _ (List.mem_of_getElem? k1))
      · exact absurd rfl ((B.find n).2 k1 _ (List.mem_of_getElem? h1))
      · obtain ⟨d0, can, s', hs', B', hu⟩ := B.back h1
        have ij : i = j := by
          rcases Nat.lt_trichotomy i j with q | q | q
          · exact absurd rfl (k2 i _ q hs')
          · exact q
          · obtain ⟨m, hm⟩ : ∃ m, U.a.marks[j]? = some m := ⟨_, List.getElem?_eq_getElem (Nat.lt_trans q (List.getElem?_eq_some_iff.1 h1).1)⟩
            exact absurd (B.num hm k1).symm (h2 j m q hm)
        subst ij
        rw [hs'] at k1
        obtain rfl : s' = s := by simpa using k1
        exact ⟨rfl, I.next (B'.stay (by omega)) (Nat.le_trans hu (Nat.le_add_right _ _)) (Nat.le_add_right _ _)⟩
set_option maxHeartbeats 4000000 in
theorem GraphAll_calls {n : Int} {es : List (Int × Int)} {ops : List Op4} (h : Heap) {a0 a1 : Option Addr} {l0 c0 l1 c1 : Nat} (hp : Hp h [Ck.vw eP a0 l0 c0 es, Ck.vw e4 a1 l1 c1 ops]) :
    CallsH Try.prog 24 #[.agg #[.int .i64 n, .slice a0 l0 c0], .slice a1 l1 c1] h fun v h' => Fr [] h h' ∧ v = .bool true := by
  have Y : Sy h [] h [_, _] := Sy.startM hp rfl
  obtain rfl := Y.lenV 0 rfl
  obtain rfl := Y.lenV 1 rfl
  apply calls24
  unfold S24
  have no1 : ∀ {x : Nat}, ∀ b ∈ ([x] : List Nat), b ∉ ([] : List Nat) := fun b _ q => by cases q
  have no2 : ∀ {x y : Nat}, ∀ b ∈ ([x, y] : List Nat), b ∉ ([] : List Nat) := fun b _ q => by cases q
  intro hv
  have Y : Sy _ _ hv [_, _, _] := Y.junk _
  clear_value hv
  refine callX_sy (okBegun74 (R := fun r => r = true) rfl hv (Hp.nil _)) (fun _ _ ⟨_, p, _⟩ => p.fr) no1 ?_
  rintro _ hv2 ⟨_, P, rfl, rfl⟩
  have Y : Sy _ _ hv2 [_, _, _] := Y.gr P.fr
  refine ⟨true, rfl, cnd_f rfl ?_⟩
  have cL : Ok59 n es (fun r => r = true → es.length ≤ 300 ∧ (n ≤ 300 ∨ mayB n es = false)) := okLightG (fun a b _ => ⟨a, b⟩) fun q => by cases q
  refine callX_sy (cL hv2 _ _ _ (Y.pick [0] rfl).hp) (fun _ _ ⟨_, p, _⟩ => p.fr) no1 ?_
  rintro _ hv3 ⟨r2, P, rfl, hlight⟩
  have Y : Sy _ _ hv3 [_, _, _] := Y.gr P.fr
  refine ⟨r2, rfl, cnd_not (fun _ => ⟨Y.fr, rfl⟩) fun hr2 => ?_⟩
  obtain ⟨hl3, hn3⟩ := hlight hr2
  have cT : Ok63 n es (fun n' es' => n' = n ∧ es' = es) := okTwin (by omega) ⟨rfl, rfl⟩
  refine callX_sy (cT hv3 _ _ _ (Y.pick [0] rfl).hp) (fun _ _ ⟨_, _, _, _, _, p, _⟩ => p.fr) no1 ?_
  rintro _ hv4 ⟨n', tA, tL, tC, es', P, rfl, rfl, rfl⟩
  have Y : Sy _ _ hv4 [_, _, _, _] := Y.callV P ⟨rfl, trivial⟩
  obtain rfl := Y.lenM 3 rfl
  refine ⟨_, _, _, _, rfl, ?_⟩
  intro hv5
  have Y : Sy _ _ hv5 [_, _, _, _, _] := Y.junk _
  intro hv6
  have Y : Sy _ _ hv6 [_, _, _, _, _] := ((Y.stJ 4 rfl _ _).stJ 4 rfl _ _)
  clear_value hv6
  have cOf : Ok75 n' es' (fun w G e => (mayB n' es' = false ∧ w = true ∧ e = 1) ∨ (w = false ∧ e = 0 ∧ mayB n' es' = true ∧ G = ofNet n'.toNat es')) := okOf (fun q => .inl ⟨q, rfl, rfl⟩) fun q => .inr ⟨rfl, rfl, q, rfl⟩
  refine callX_sy (cOf hv6 _ _ _ ((Y.turn 3 rfl To.slmvw).pick [3] rfl).hp) (fun _ _ ⟨_, _, _, _, _, p, _⟩ => p.fr) no2 ?_
  rintro _ hv7 ⟨gB, gS, w, G, e, P, rfl, z⟩
  have Y : Sy _ _ hv7 [_, _, _, _, _, _] := Y.callV P ⟨by cases w <;> rfl, trivial⟩
  refine ⟨_, _, rfl, ?_⟩
  have cOd : Ok107 n' es' (fun w D e => (mayB n' es' = false ∧ w = true ∧ e = 1) ∨ (w = false ∧ e = 0 ∧ mayB n' es' = true ∧ Sim (ofNet n'.toNat es') D.s ∧ D.marks = [] ∧ D.last = 0)) := okOfD (fun q D => .inl ⟨q, rfl, rfl⟩) fun q D a b c => .inr ⟨rfl, rfl, q, a, b, c⟩
  refine callX_sy (cOd hv7 _ _ _ (Y.pick [0] rfl).hp) (fun _ _ ⟨_, _, _, _, _, p, _⟩ => p.fr) no2 ?_
  rintro _ hv8 ⟨w2, dB, dS, D, e2, P, rfl, z2⟩
  have Y : Sy _ _ hv8 [_, _, _, _, _, _, _] := Y.callV P ⟨by cases w2 <;> rfl, trivial⟩
  refine ⟨_, _, rfl, ?_⟩
  have cK : Ok73 n' es' n' es' (fun r => r = true) := okKept (by omega) rfl
  rcases z with ⟨q, rfl, rfl⟩ | ⟨rfl, rfl, q, rfl⟩
  · rcases z2 with ⟨_, rfl, rfl⟩ | ⟨_, _, q2, _⟩
    · intro K
      refine cnd_ne (fun q => absurd rfl q) fun _ => cnd_f rfl ?_
      refine callX_sy (cK hv8 _ _ _ _ _ _ ((Y.turn 3 rfl To.slmvwm).pick [3, 0] rfl).hp) (fun _ _ ⟨_, p, _⟩ => p.fr) no2 ?_
      rintro _ hv9 ⟨_, P, rfl, rfl⟩
      exact ⟨true, rfl, cnd_f rfl (cnd_t rfl ⟨(Y.gr P.fr).fr, rfl⟩)⟩
    · rw [q] at q2; cases q2
  rcases z2 with ⟨q2, _, _⟩ | ⟨rfl, rfl, _, S, dm, dl⟩
  · rw [q] at q2; cases q2
  have hn : n' ≤ 300 := hn3.resolve_right (by rw [q]; simp)
  obtain ⟨⟨g0, g1⟩, hl, he⟩ := mayB_iff.1 q
  obtain ⟨m, rfl⟩ := Int.eq_ofNat_of_zero_le g0
  rw [Int.toNat_natCast] at S Y
  obtain ⟨l1, l2, l3⟩ := ofNet_len m es'
  have F0 : Fit (ofNet m es') 300 := ofNet_fitK (by omega) (by omega) (by omega) (by omega) fun p hp => endB_iff.1 (he p hp)
  intro K
  refine cnd_ne (fun q => absurd rfl q) fun _ => cnd_f rfl ?_
  refine callX_sy (cK hv8 _ _ _ _ _ _ ((Y.turn 3 rfl To.slmvwm).pick [3, 0] rfl).hp) (fun _ _ ⟨_, p, _⟩ => p.fr) no2 ?_
  rintro _ hv9 ⟨_, P, rfl, rfl⟩
  have Y : Sy _ _ hv9 [_, _, _, _, _, Ck.gr gB gS (ofNet m es'), Ck.rg dB dS D] := Y.gr P.fr
  refine ⟨true, rfl, cnd_f rfl (cnd_f rfl ?_)⟩
  intro hv11
  have Y : Sy _ _ hv11 [_, _, _, _, _, _, _, _] := Y.newO (ty := 149) [.pointer (some ⟨gB, 0, none⟩), .pointer (some ⟨dB, 0, none⟩), .slice none 0 0]
  clear_value hv11
  have Y : Sy _ _ hv11 [_, _, _, _, _, _, _, _, _] := Y.nilS eI 3
  have Y := Sy.packU ⟨ofNet m es', D, []⟩ (B := [_, _]) (Y.pick [7, 5, 6, 8, 0, 1] rfl)
  have I0 : AInv ⟨ofNet m es', D, []⟩ 300 := by
    refine ⟨⟨F0, S, by rw [dl]; rfl, ⟨[], ?_⟩, by show ([] : List (Int × Int)).length ≤ 64; decide⟩, by show (ofNet m es').undo.length ≤ _; omega, by simp⟩
    show Chn [] D.marks [] _ _
    rw [dm]
    exact ⟨rfl, rfl, fun i m d a => by simp at a, fun i m H d a => by simp at a, fun i H a => by simp at a, fun i j H J _ a => by simp at a⟩
  -- both tell the same
  have same : ∀ {hx : Heap} {ab : Nat} {bs : List Nat} {U : RunS} {k : Nat} {Q : Value → Heap → Prop}, AInv U k → k ≤ 900 → Sy h [] hx [Ck.ru hv9.size ab bs U, Ck.vw eP a0 es'.length c0 es', Ck.vw e4 a1 ops.length c1 ops] →
      (∀ hy bs', Sy h [] hy [Ck.ru hv9.size ab bs' U, Ck.vw eP a0 es'.length c0 es', Ck.vw e4 a1 ops.length c1 ops] → Q (.bool true) hy) → callX Try.prog 109 #[.pointer (some (⟨hv9.size, 0, none⟩ : Addr))] hx [] Q := by
    intro hx ab bs U k Q I hk Y z
    have Sm := I.small (by omega)
    have cS : Ok109 U.a U.b U.ms (fun G' D' r => G' = U.a ∧ D' = U.b ∧ r = true) := okSameG I.both (by omega) (by have := Sm.u; omega) ⟨rfl, rfl, rfl⟩
    obtain ⟨abs, bb, bbs, mA, mL, mC, Y⟩ := Y.openU
    have Y : Sy _ _ hx [_, _, _, _, _, _] := Y
    obtain rfl := Y.lenS 3 rfl
    have Yv := (Y.turn 0 rfl To.obvob).turn 3 rfl To.slvw
    refine callX_sy (cS hx hv9.size 0 ab abs bb bbs mA _ mC (Yv.pick [0, 1, 2, 3] rfl).hp) (fun _ _ ⟨_, _, _, _, _, p, _⟩ => p.fr) alln ?_
    rintro _ hy ⟨abs', G', bbs', D', r, P, rfl, rfl, rfl, rfl⟩
    have Y : Sy _ _ hy [_, _, _, _, _, _] := Y.call2 [1, 2, 0, 3, 4, 5] rfl (A := [_, _]) rfl rfl P ⟨rfl, rfl, trivial⟩
    exact z hy _ (Sy.packU U (B := [_, _]) (Y.pick [2, 0, 1, 3, 4, 5] rfl))
  intro K2
  have fin : ∀ {hx : Heap} {ab : Nat} {bs : List Nat} {U : RunS} {k : Nat}, AInv U k → k ≤ 900 → Sy h [] hx [Ck.ru hv9.size ab bs U, Ck.vw eP a0 es'.length c0 es', Ck.vw e4 a1 ops.length c1 ops] → K2 hx := by
    intro hx ab bs U k I hk Y
    exact same I hk Y fun hy bs' Y' => ⟨true, rfl, Y'.fr, rfl⟩
  refine ⟨fun lz h' => ∃ (i : Nat) (ab : Nat) (bs : List Nat) (U : RunS), lz = [.int .i64 i] ∧ i ≤ 250 ∧ AInv U (300 + i) ∧ Sy h [] h' [Ck.ru hv9.size ab bs U, Ck.vw eP a0 es'.length c0 es', Ck.vw e4 a1 ops.length c1 ops], mI (ops.length : Int), ⟨0, gB, _, _, rfl, by decide, I0, Y⟩, ?_⟩
  rintro i hv12 ⟨i, ab, bs, U, e, hi, I, Y⟩
  cases e
  refine cnd_dec (fun q1 => cnd_dec (fun q2 => ?_) fun _ => fin I (by omega) Y) fun _ => fin I (by omega) Y
  obtain ⟨ob, oo, hob, _, x, hx⟩ := Y.atV 2 rfl (i := (i : Int)) (by omega) q1
  obtain ⟨o1, o2, o3, o4⟩ := x
  have cell := fun {t : Nat} {v : Value} (hv : (e4.enc (o1, o2, o3, o4))[t]? = some v) => Y.cellV 2 rfl hob (t := t) hx hv
  refine ⟨ob, oo, hob, by omega, q1, o1, cell (t := 0) rfl, o2, cell (t := 1) rfl, o3, cell (t := 2) rfl, o4, cell (t := 3) rfl, ?_⟩
  refine callX_sy (play_all I (by omega) hv12 hv9.size ab bs (Y.pick [0] rfl).hp) (fun _ _ ⟨_, _, _, _, p, _⟩ => p.fr) alln ?_
  rintro _ hv13 ⟨ab', bs', U', r, P, _, rfl, rfl, I'⟩
  have Y : Sy _ _ hv13 [_, _, _] := Y.call2 [0, 1, 2] rfl (A := [_]) rfl rfl P ⟨rfl, trivial⟩
  refine ⟨true, rfl, cnd_f rfl ?_⟩
  refine same I' (by omega) Y fun hy bs2 Y' => ⟨true, rfl, cnd_f rfl ?_⟩
  have hw : IntKind.i64.wrap ((i : Int) + 1) = ((i + 1 : Nat) : Int) := by rw [wr (by omega) (by omega)]; rfl
  rw [hw]
  exact ⟨⟨i + 1, ab', bs2, U', rfl, by omega, I', Y'⟩, by simp only [mI]; omega⟩
end Go.Proofs.Ytmcloipjlihhlaa.N
namespace Go.Proofs.Ytmcloipjlihhlaa
open Go.X in
theorem GraphAll_ok {n : Int} {es : List (Int × Int)} {ops : List (Int × Int × Int × Int)} {h : Heap} {a0 a1 : Option Addr} {l0 c0 l1 c1 : Nat} (hp : Hp h [Ck.vw eP a0 l0 c0 es, Ck.vw e4 a1 l1 c1 ops]) :
    CallsH Try.prog 24 #[.agg #[.int .i64 n, .slice a0 l0 c0], .slice a1 l1 c1] h fun v h' => Fr [] h h' ∧ v = .bool true := N.GraphAll_calls h hp
end Go.Proofs.Ytmcloipjlihhlaa
