/- Package graph: a node dropped, a mark gone back to. Conditions: none. -/
import Derived.Test.YtmcloipjlihhlaaNGr5
namespace Go.X
theorem Gr.dropE_nodes (G : Gr) (e : Int) : (G.dropE e).nodes = G.nodes := by rw [Gr.dropE, Gr.did_nodes]; rfl
theorem Gr.dropE_elen (G : Gr) (e : Int) : (G.dropE e).edges.length = G.edges.length := by rw [Gr.dropE, Gr.did_edges]; simp [Gr.setE]
theorem Gr.dropE_ulen (G : Gr) (e : Int) : (G.dropE e).undo.length ≤ G.undo.length + 1 := Gr.did_undo _ _
theorem Gr.dropEs (l : List Int) : ∀ (G : Gr), (l.foldl Gr.dropE G).nodes = G.nodes ∧ (l.foldl Gr.dropE G).edges.length = G.edges.length ∧ (l.foldl Gr.dropE G).undo.length ≤ G.undo.length + l.length := by
  induction l with
  | nil => intro G; simp
  | cons e l ih =>
    intro G
    obtain ⟨a, b, c⟩ := ih (G.dropE e)
    have := Gr.dropE_ulen G e
    exact ⟨by rw [List.foldl_cons, a, Gr.dropE_nodes], by rw [List.foldl_cons, b, Gr.dropE_elen], by rw [List.foldl_cons, List.length_cons]; omega⟩
/-- The last thing done undone. -/
def Gr.pop (G : Gr) : Gr :=
  match G.undo.getLast? with
  | some u => Gr.undo1 { G with undo := G.undo.take (G.undo.length - 1) } u
  | none => G
def Gr.unwind : Nat → Gr → Gr
  | 0, G => G
  | k + 1, G => Gr.unwind k G.pop
def Gr.canN : Nat → Gr → Prop
  | 0, _ => True
  | k + 1, G => (∃ u, G.undo.getLast? = some u ∧ Gr.can { G with undo := G.undo.take (G.undo.length - 1) } u) ∧ Gr.canN k G.pop
theorem Gr.undo1_undo (G : Gr) (u : Und) : (G.undo1 u).undo = G.undo := by cases u <;> rfl
theorem Gr.undo1_len (G : Gr) (u : Und) : (G.undo1 u).nodes.length ≤ G.nodes.length ∧ (G.undo1 u).edges.length ≤ G.edges.length := by
  cases u <;> simp [Gr.undo1, Gr.setEnd, Gr.setE, Gr.setN] <;> omega
end Go.X
namespace Go.Proofs.Ytmcloipjlihhlaa.N
open Go.Proofs.Ytmcloipjlihhlaa
open Go.X

theorem ok99 {G : Gr} {v : Int} {R : Gr → Int → Int → Prop} (hr : G.room ((G.at v).length + 1)) (k0 : G.node v = false → R G 0 2) (k1 : G.node v = true → R (G.dropAll v) ((G.at v).length : Int) 0) : Ok99 G v R := by
  intro h b bs hp
  obtain ⟨r1, r2, r3⟩ := hr
  have Y : Sy h _ h [_] := Sy.startM hp rfl
  apply calls99
  unfold S99
  refine GC.step (g162 G) Y alln fun _ h1 bs1 G1 Y ⟨e1, e2⟩ => ⟨false, e1, cnd_f rfl ?_⟩
  subst e2
  refine GC.step (g167 G1 v (by omega)) Y alln fun _ h1 bs1 G2 Y ⟨e1, e2⟩ => ⟨_, e1, ?_⟩
  subst e2
  refine cnd_not (fun c => ⟨bs1, G2, 0, 2, Y, rfl, k0 c⟩) fun c => ?_
  refine at_step Y (by omega) fun h2 rA rL rC Y => ⟨_, _, _, rfl, ?_⟩
  have Y : Sy _ _ h2 [_, _] := Y
  obtain rfl := Y.lenS 1 rfl
  refine ⟨fun lz h' => ∃ (x : Int) (bs' : List Nat), lz = [.int .i64 x] ∧ 0 ≤ x ∧ x ≤ (G2.at v).length ∧ Sy h (owns [Ck.gr b bs G2]) h' [Ck.gr b bs' (((G2.at v).take x.toNat).foldl Gr.dropE G2), Ck.sl eI 3 rA (G2.at v).length rC (G2.at v)],
    mI ((G2.at v).length : Int), ⟨0, bs1, rfl, Int.le_refl 0, by omega, Y⟩, ?_⟩
  rintro x hv4 ⟨x', bs', e, h1, h2', Y⟩
  cases e
  obtain ⟨f1, f2, f3⟩ := Gr.dropEs ((G2.at v).take x.toNat) G2
  have fl : ((G2.at v).take x.toNat).length = x.toNat := by rw [List.length_take]; omega
  rw [fl] at f3
  refine cnd_dec (fun c3 => ?_) fun c3 => ?_
  · obtain ⟨rb, hb, _, e, he⟩ := Y.atS 1 rfl h1 c3
    have er := Gr.at_range v G2.edges 0 e (List.mem_of_getElem? he)
    have hw : IntKind.i64.wrap (x + 1) = x + 1 := wr (by omega) (by omega)
    refine ⟨rb, 0, hb, h1, c3, e, Y.cellS 1 rfl hb (t := 0) he rfl, ?_⟩
    refine GC.step (g170 _ e (by omega) (by omega) (by omega) (by omega)) Y alln fun _ h5 bs5 G5 Y ⟨e1, e2⟩ => ⟨e1, ⟨IntKind.i64.wrap (x + 1), bs5, rfl, by omega, by omega, ?_⟩, ?_⟩
    · rw [hw, show (x + 1).toNat = x.toNat + 1 by omega, take_snoc he, List.foldl_append]
      subst e2
      exact Y
    · rw [hw]; simp only [mI]; omega
  · have ex : x.toNat = (G2.at v).length := by omega
    rw [ex, List.take_length] at Y f1 f2 f3
    simp only [Gr.node, Bool.and_eq_true, decide_eq_true_eq] at c
    refine GC.step (g171 _ v (by omega) c.1.1 (by rw [f1]; exact c.1.2) (by rw [f1]; omega)) Y alln fun _ h5 bs5 G5 Y ⟨e1, e2⟩ => ⟨e1, ?_⟩
    subst e2
    exact ⟨bs5, _, _, 0, Y.pick [0] rfl, rfl, k1 (by simp only [Gr.node, Bool.and_eq_true, decide_eq_true_eq]; exact c)⟩
theorem fns_mem {g : Nat} (h : g = 212 ∨ g = 213 ∨ g = 214 ∨ g = 215 ∨ g = 216) : X.mem fnsX g = true := by
  rcases h with rfl | rfl | rfl | rfl | rfl <;> kernel_rfl
theorem ok104 {G : Gr} {number : Int} {R : Gr → Int → Prop} (hr : G.room 1) (hm : G.marks.length ≤ 64)
    (k0 : (∀ m ∈ G.marks, m.1 ≠ number) → R G 14)
    (hc : ∀ i d, G.marks[i]? = some (number, d) → (∀ j m, j < i → G.marks[j]? = some m → m.1 ≠ number) → 0 ≤ d ∧ Gr.canN (G.undo.length - d.toNat) { G with marks := G.marks.take (i + 1) } ∧ R (Gr.unwind (G.undo.length - d.toNat) { G with marks := G.marks.take (i + 1) }) 0) : Ok104 G number R := by
  intro h b bs hp
  have hr0 := hr
  obtain ⟨r1, r2, r3⟩ := hr
  have Y : Sy h _ h [_] := Sy.startM hp rfl
  apply calls104
  unfold S104
  refine GC.step (g162 G) Y alln fun _ h1 bs1 G1 Y ⟨e1, e2⟩ => ⟨false, e1, cnd_f rfl ?_⟩
  subst e2
  obtain ⟨nA, nL, nC, eA, eL, eC, uA, uL, uC, rs, mA, mL, mC, Y⟩ := Y.openG
  have Y : Sy _ _ h1 [_, _, _, _, _] := Y
  obtain rfl := Y.lenS 4 rfl
  obtain rfl := Y.lenU 3 rfl
  refine ⟨b, 0, rfl, _, _, _, Y.cellO 0 rfl 6 rfl, ?_⟩
  obtain ⟨L, hL, Y⟩ : ∃ L, L = [Ck.ob b 204 [.bool true, .slice nA nL nC, .slice eA eL eC, .int .i64 G1.ln, .int .i64 G1.le, .slice uA G1.undo.length uC, .slice mA G1.marks.length mC, .int .i64 G1.last], Ck.sl eB 4 nA nL nC G1.nodes, Ck.sl e2B 199 eA eL eC G1.edges, Ck.un uA G1.undo.length uC rs G1.undo, Ck.sl eP 226 mA G1.marks.length mC G1.marks] ∧ Sy h (owns [Ck.gr b bs G1]) h1 L := ⟨_, rfl, Y⟩
  refine ⟨fun lz h' => ∃ x : Int, lz = [.int .i64 x] ∧ 0 ≤ x ∧ x ≤ G1.marks.length ∧ (∀ (j : Nat) m, j < x.toNat → G1.marks[j]? = some m → m.1 ≠ number) ∧ Sy h (owns [Ck.gr b bs G1]) h' L, mI (G1.marks.length : Int), ⟨0, rfl, Int.le_refl 0, by omega, fun j m hj => by simp at hj, Y⟩, ?_⟩
  rintro x hv2 ⟨x', e, h1', h2', hno, Y⟩
  cases e
  refine cnd_dec (fun c => ?_) fun c => ?_
  · have hw : IntKind.i64.wrap (x + 1) = x + 1 := wr (by omega) (by omega)
    subst hL
    obtain ⟨mb, hb, _, m, hmm⟩ := Y.atS 4 rfl h1' c
    refine ⟨mb, 0, hb, h1', c, m.1, Y.cellS 4 rfl hb (t := 0) hmm rfl, m.2, Y.cellS 4 rfl hb (t := 1) hmm rfl, ?_⟩
    intro hv3
    have Y : Sy _ _ hv3 [_, _, _, _, _, _] := Y.junk _
    intro hv4
    have Y : Sy _ _ hv4 [_, _, _, _, _, _] := ((Y.stJ 5 rfl _ _).stJ 5 rfl _ _)
    clear_value hv4
    refine cnd_ne (fun c2 => ⟨⟨IntKind.i64.wrap (x + 1), rfl, by omega, by omega, fun j m' hj hm' => ?_, Y.pick [0, 1, 2, 3, 4] rfl⟩, ?_⟩) fun c2 => ?_
    · rw [hw] at hj
      by_cases hj2 : j < x.toNat
      · exact hno j m' hj2 hm'
      · have : j = x.toNat := by omega
        subst this
        rw [hm'] at hmm
        obtain rfl := Option.some.inj hmm
        exact c2
    · rw [hw]; simp only [mI]; omega
    · obtain ⟨d0, hcan, hR⟩ := hc x.toNat m.2 (by rw [hmm, ← c2]) hno
      have cp := Y.capS 4 rfl
      refine ⟨b, 0, rfl, _, _, _, Y.cellO 0 rfl 6 rfl, by omega, by rw [hw]; omega, b, 0, rfl, Y.neJ 0 5 rfl rfl rfl (by simp [Ck.ob]), ⟨_, Y.cellO 0 rfl 6 rfl⟩, Y.freeO 0 rfl _, ?_⟩
      intro hv5
      have Y1 := Y.stO 0 rfl 6 (.slice (if mC = 0 then mA else Option.map (fun addr => Addr.add addr (0 * 2)) mA) ((Int.toNat (IntKind.i64.wrap (x + (1 : Int)))) - 0) (mC - 0))
      have Y : Sy _ _ hv5 [_, _, _, _, _, _] := Y1
      have et : (IntKind.i64.wrap (x + 1)).toNat - 0 = x.toNat + 1 := by rw [hw]; omega
      rw [slice0, et] at Y
      have Y : Sy _ _ hv5 [_, _, _, _, _, _] := Y.shrS 4 rfl (x.toNat + 1) (by omega)
      clear_value hv5
      have Y := Sy.packG { G1 with marks := G1.marks.take (x.toNat + 1) } (B := [_]) Y
      obtain ⟨JJ, hJJ⟩ : ∃ JJ : Nat → List Value → Heap → Prop, JJ = (fun k _ h' => ∃ (bs' : List Nat) (G' : Gr), Sy h (owns [Ck.gr b bs G1]) h' [Ck.gr b bs' G', Ck.junk hv2.size] ∧ G'.room 1 ∧ Gr.canN k G' ∧ G'.undo.length - m.2.toNat = k ∧ Gr.unwind k G' = Gr.unwind (G1.undo.length - m.2.toNat) { G1 with marks := G1.marks.take (x.toNat + 1) }) := ⟨_, rfl⟩
      refine ⟨fun lz h' => ∃ k, JJ k lz h', Lm JJ, ?_, ?_⟩
      · subst hJJ
        exact ⟨_, _, _, Y, hr0, hcan, rfl, rfl⟩
      · clear Y
        intro hv6 hI
        obtain ⟨k, hI, hmeas⟩ := loopIn hI
        subst hJJ
        obtain ⟨bs', G', Y, hr', hcan', hk, hun⟩ := hI
        have Yg := Y
        obtain ⟨nA, nL, nC, eA, eL, eC, uA, uL, uC, rs, mA, mL, mC, Y⟩ := Y.openG
        have Y : Sy _ _ hv6 [_, _, _, _, _, _] := Y
        obtain rfl := Y.lenU 3 rfl
        have hr2 := hr'
        obtain ⟨s1, s2, s3⟩ := hr'
        refine ⟨b, 0, rfl, _, _, _, Y.cellO 0 rfl 5 rfl, cnd_dec (fun c3 => ?_) fun c3 => ?_⟩
        · have hw2 : IntKind.i64.wrap ((G'.undo.length : Int) - 1) = (G'.undo.length : Int) - 1 := wr (by omega) (by omega)
          have q1 : 0 ≤ IntKind.i64.wrap ((G'.undo.length : Int) - 1) := by rw [hw2]; omega
          have q2 : IntKind.i64.wrap ((G'.undo.length : Int) - 1) < (G'.undo.length : Int) := by rw [hw2]; omega
          obtain ⟨ub, hub, r, u, hrr, huu, hcell, hmean⟩ := Y.atU 3 rfl q1 q2
          have cp : G'.undo.length ≤ uC := (Y.ownU 3 rfl).cap.1
          refine ⟨b, 0, rfl, _, _, _, Y.cellO 0 rfl 5 rfl, b, 0, rfl, _, _, _, Y.cellO 0 rfl 5 rfl, ub, 0, hub, q1, q2, r.f, r.x, r.y, hcell, b, 0, rfl, _, _, _, Y.cellO 0 rfl 5 rfl, b, 0, rfl, _, _, _, Y.cellO 0 rfl 5 rfl, q1, by omega, b, 0, rfl, Y.neJ 0 5 rfl rfl rfl (by simp [Ck.ob]), ⟨_, Y.cellO 0 rfl 5 rfl⟩, Y.freeO 0 rfl _, ?_⟩
          intro hv7
          have hm7 : Means hv7 r u := hmean.blk fun d hd => hset_ne (by
            rintro rfl
            exact (Y.hp.ap 0 3 _ _ (by omega) rfl rfl d (by simp [Ck.ob])).1 (List.mem_append_right _ (List.mem_flatMap.2 ⟨r, List.mem_of_getElem? hrr, hd⟩)))
          have Y1 := Y.stO 0 rfl 5 (.slice (if uC = 0 then uA else Option.map (fun addr => Addr.add addr (0 * 1)) uA) ((Int.toNat (IntKind.i64.wrap ((G'.undo.length : Int) - (1 : Int)))) - 0) (uC - 0))
          have Y : Sy _ _ hv7 [_, _, _, _, _, _] := Y1
          have et : (IntKind.i64.wrap ((G'.undo.length : Int) - 1)).toNat - 0 = G'.undo.length - 1 := by rw [hw2]; omega
          rw [slice0, et] at Y
          have Y : Sy _ _ hv7 [_, _, _, _, _, _] := Y.shrU 3 rfl (G'.undo.length - 1) (by omega)
          have Y := Sy.packG { G' with undo := G'.undo.take (G'.undo.length - 1) } (B := [_]) Y
          clear_value hv7
          -- what was done last
          have eu : G'.undo.getLast? = some u := by
            rw [List.getLast?_eq_getElem?, ← huu]
            congr 1
            rw [hw2]; omega
          obtain ⟨k', rfl⟩ : ∃ k', k = k' + 1 := ⟨k - 1, by omega⟩
          obtain ⟨⟨u', eu', hcan1⟩, hcan2⟩ := hcan'
          rw [eu] at eu'
          obtain rfl := Option.some.inj eu'
          have epop : G'.pop = Gr.undo1 { G' with undo := G'.undo.take (G'.undo.length - 1) } u := by rw [Gr.pop, eu]
          obtain ⟨g, g1, g2, g3, gc⟩ := undo_calls { G' with undo := G'.undo.take (G'.undo.length - 1) } u hcan1 ⟨s1, s2, by simp only [List.length_take]; omega⟩ hv7 b _ r (Hp.one (Y.ok (k := 0) rfl)) hm7
          rw [g1, g2]
          unfold callD
          simp only [fns_mem g3]
          refine callX_sy gc (fun _ _ ⟨_, p, _⟩ => p.fr) (allc (Y.hp.ap 1 0 _ _ (by omega) rfl rfl _ (by simp [Ck.junk])).1 alln) ?_
          rintro _ hv8 ⟨bs8, P, rfl⟩
          have Y : Sy _ _ hv8 [_, _] := Sy.call (A := [Ck.gr b _ _]) (cs' := [Ck.gr b bs8 _]) Y (by rw [owns_gr]; exact P) ⟨rfl, trivial⟩
          refine ⟨rfl, ?_⟩
          have ln := Gr.undo1_len { G' with undo := G'.undo.take (G'.undo.length - 1) } u
          have lu : (Gr.undo1 { G' with undo := G'.undo.take (G'.undo.length - 1) } u).undo.length = G'.undo.length - 1 := by rw [Gr.undo1_undo]; simp
          have ln1 : (Gr.undo1 { G' with undo := G'.undo.take (G'.undo.length - 1) } u).nodes.length ≤ G'.nodes.length := ln.1
          have ln2 : (Gr.undo1 { G' with undo := G'.undo.take (G'.undo.length - 1) } u).edges.length ≤ G'.edges.length := ln.2
          refine loopBack (k' := k') hmeas ⟨bs8, _, Y, ⟨by omega, by omega, by omega⟩, by rw [← epop]; exact hcan2, by omega, ?_⟩ (by omega)
          rw [← epop, ← hun]; rfl
        · have k0' : k = 0 := by omega
          subst k0'
          exact ⟨bs', G', 0, Yg.pick [0] rfl, rfl, by have hun : G' = _ := hun; rw [hun]; exact hR⟩
  · subst hL
    refine ⟨_, G1, 14, Sy.packG G1 (B := []) Y, rfl, k0 fun m hmem => ?_⟩
    obtain ⟨j, hj, rfl⟩ := List.getElem_of_mem hmem
    exact hno j _ (by omega) (List.getElem?_eq_getElem hj)
end Go.Proofs.Ytmcloipjlihhlaa.N
