/- Law GraphIds: ids rise, and tell the net. Conditions: none. -/
import Derived.Test.YtmcloipjlihhlaaNGrL
import Derived.Test.YtmcloipjlihhlaaTGraphB
namespace Go.X
section
variable {G : Gr} {e en u v : Int}
theorem Gr.did_none (h : G.marks = []) {w : Und} : G.did w = G := by unfold Gr.did; rw [h]
/-- Nothing to undo, no mark. -/
def Gr.plain (G : Gr) : Prop := G.undo = [] ∧ G.marks = []
theorem Gr.did_plain {w : Und} (h : G.plain) : (G.did w).plain := by rw [Gr.did_none h.2]; exact h
theorem Gr.plain.addN (h : G.plain) : G.addN.plain := by unfold Gr.addN; exact Gr.did_plain ⟨h.1, h.2⟩
theorem Gr.plain.addE (h : G.plain) : (G.addE u v).plain := by unfold Gr.addE; exact Gr.did_plain ⟨h.1, h.2⟩
theorem Gr.plain.dropN (h : G.plain) : (G.dropN v).plain := by unfold Gr.dropN; exact Gr.did_plain ⟨h.1, h.2⟩
theorem Gr.plain.dropE (h : G.plain) : (G.dropE e).plain := by unfold Gr.dropE; exact Gr.did_plain ⟨h.1, h.2⟩
theorem Gr.plain.move (h : G.plain) : (G.move e en v).plain := by unfold Gr.move; exact Gr.did_plain ⟨h.1, h.2⟩
theorem Gr.plain.dropEs : ∀ (l : List Int) {G : Gr} (_ : G.plain), (l.foldl Gr.dropE G).plain
  | [], _, h => h
  | e :: l, _, h => by rw [List.foldl_cons]; exact Gr.plain.dropEs l h.dropE
theorem Gr.plain.dropAll (h : G.plain) : (G.dropAll v).plain := (Gr.plain.dropEs _ h).dropN
theorem Gr.plain.split (h : G.plain) : (G.splitG e).plain := h.addN.addE.move
theorem Gr.plain.unsplit {k f : Int} (h : G.plain) : (G.unsplitG v k f).plain := h.move.dropE.dropN
theorem Gr.dropAll_nlen : (G.dropAll v).nodes.length = G.nodes.length := by rw [Gr.dropAll, Gr.dropN_nlen, (Gr.dropEs_ns _ G).1]
theorem Gr.dropAll_elen : (G.dropAll v).edges.length = G.edges.length := by rw [Gr.dropAll, Gr.dropN_edges, (Gr.dropEs_ns _ G).2]
theorem Gr.split_nlen : (G.splitG e).nodes.length = G.nodes.length + 1 := by rw [Gr.splitG, Gr.move_nodes, Gr.addE_nodes, Gr.addN_nlen]
theorem Gr.split_elen : (G.splitG e).edges.length = G.edges.length + 1 := by rw [Gr.splitG, Gr.move_elen, Gr.addE_elen, Gr.addN_edges]
theorem Gr.unsplit_nlen {k f : Int} : (G.unsplitG v k f).nodes.length = G.nodes.length := by rw [Gr.unsplitG, Gr.dropN_nlen, Gr.dropE_nodes, Gr.move_nodes]
theorem Gr.unsplit_elen {k f : Int} : (G.unsplitG v k f).edges.length = G.edges.length := by rw [Gr.unsplitG, Gr.dropN_edges, Gr.dropE_elen, Gr.move_elen]
theorem Gr.addE_nlen : (G.addE u v).nodes.length = G.nodes.length := by rw [Gr.addE_nodes]
theorem Gr.addN_elen : G.addN.edges.length = G.edges.length := by rw [Gr.addN_edges]
theorem Gr.dropE_nlen : (G.dropE e).nodes.length = G.nodes.length := by rw [Gr.dropE_nodes]
theorem Gr.good.inR (g : G.good) : G.inR := by
  intro x hx hl
  obtain ⟨k, hk, rfl⟩ := List.getElem_of_mem hx
  have hm : (((0 : Nat) : Int) + k + 1, G.edges[k].1, G.edges[k].2.1) ∈ G.es := mem_lvE.2 (by rw [List.getElem?_eq_getElem hk]; exact congrArg some (Prod.ext rfl (Prod.ext rfl hl)))
  obtain ⟨h1, h2⟩ := g _ hm
  have r1 := idsN_range _ _ _ h1
  have r2 := idsN_range _ _ _ h2
  simp only at r1 r2 ⊢
  omega
theorem Gr.good.ofNet {n : Nat} {es : List (Int × Int)} (h : ∀ p ∈ es, (0 ≤ p.1 ∧ p.1 < n) ∧ 0 ≤ p.2 ∧ p.2 < n) : (ofNet n es).good := by
  intro x hx
  have hm := Gr.mem_es hx
  have hr := Gr.has_range hm.1
  have hl : (x.1 - 1).toNat < es.length := by rw [(ofNet_len n es).2.1] at hr; omega
  have ee := ofNet_edge (n := n) (List.getElem?_eq_getElem hl)
  rw [show (((x.1 - 1).toNat : Nat) : Int) + 1 = x.1 by omega, hm.2] at ee
  obtain ⟨⟨a, b⟩, c, d⟩ := h es[(x.1 - 1).toNat] (List.getElem_mem hl)
  have e1 : x.2.1 = es[(x.1 - 1).toNat].1 + 1 := congrArg (·.1) ee
  have e2 : x.2.2 = es[(x.1 - 1).toNat].2 + 1 := congrArg (·.2.1) ee
  exact ⟨Gr.node_iff.1 (ofNet_node (by omega) (by omega)), Gr.node_iff.1 (ofNet_node (by omega) (by omega))⟩
/-- What a graph tells is a net. -/
theorem Gr.good.net (g : G.good) : ∀ p ∈ netE G.nodes G.edges, (0 ≤ p.1 ∧ p.1 < G.ns.length) ∧ 0 ≤ p.2 ∧ p.2 < G.ns.length := by
  intro p hp
  rw [netE_lv _ _ 0] at hp
  obtain ⟨x, hx, rfl⟩ := List.mem_map.1 hp
  obtain ⟨h1, h2⟩ := g x hx
  have a := toV_at h1
  have b := toV_at h2
  exact ⟨⟨a.1, a.2.1⟩, b.1, b.2.1⟩
end
end Go.X
namespace Go.Proofs.Ytmcloipjlihhlaa.N
open Go.Proofs.Ytmcloipjlihhlaa
open Go.X
theorem okNumbered {G : Gr} {R : Gr → Bool → Prop} (g : G.good) (h1 : G.nodes.length ≤ 1000) (h2 : G.edges.length ≤ 3000) (hu : G.undo.length ≤ 1000) (k : R G true) : Ok106 G G.nodes.length G.edges.length R := by
  have hroom : G.room 1 := ⟨by omega, by omega, by omega⟩
  have ln := idsN_len G.nodes 0
  have le := idsE_len G.edges 0
  have lw := netE_len G.nodes G.edges
  have eqs : (idsE 0 G.edges).length = G.es.length := by rw [idsE_lv, List.length_map]; rfl
  have eqw : (netE G.nodes G.edges).length = G.es.length := by rw [netE_lv _ _ 0, List.length_map]; rfl
  apply ok106
  unfold T106
  refine ok79 hroom g.inR ?_
  refine ⟨fun i => 0 ≤ i ∧ i ≤ (idsN 0 G.nodes).length, fun i => (((idsN 0 G.nodes).length : Int) - i).toNat, ⟨Int.le_refl 0, by omega⟩, ?_⟩
  rintro i ⟨i0, i1⟩
  refine cnd_dec (fun c => ?_) fun c => ?_
  · have hw : IntKind.i64.wrap (i + 1) = i + 1 := w64id (by omega) (by omega)
    have hw2 : IntKind.i64.wrap (i - 1) = i - 1 := w64id (by omega) (by omega)
    rw [hw, hw2]
    refine ⟨True, ⟨False, ⟨i0, c, fun x hx => ?_⟩, fun q => q.elim⟩, fun _ => ⟨⟨by omega, by omega⟩, by show ((((idsN 0 G.nodes).length : Int) - (i + 1)).toNat < (((idsN 0 G.nodes).length : Int) - i).toNat); omega⟩⟩
    have hr := idsN_range _ _ _ (List.mem_of_getElem? hx)
    refine cnd_dec (fun q => by omega) fun _ => cnd_dec (fun q => by omega) fun _ => cnd_dec (fun c2 => ⟨by omega, by omega, fun y hy => cnd_dec (fun q => ?_) fun _ => trivial⟩) fun _ => trivial
    have := sorted_get (f := fun x : Int => x) (idsN_sorted G.nodes 0) hy hx (by omega)
    omega
  refine ⟨fun i G' => 0 ≤ i ∧ i ≤ G.es.length ∧ G' = G, fun i _ => ((G.es.length : Int) - i).toNat, ⟨Int.le_refl 0, by omega, rfl⟩, ?_⟩
  rintro i G' ⟨i0, i1, rfl⟩
  refine cnd_dec (fun c => ?_) fun c => ?_
  · have hw : IntKind.i64.wrap (i + 1) = i + 1 := w64id (by omega) (by omega)
    have hw2 : IntKind.i64.wrap (i - 1) = i - 1 := w64id (by omega) (by omega)
    rw [hw, hw2]
    refine ⟨i0, c, fun x hx => ?_⟩
    obtain ⟨z, hz, rfl⟩ : ∃ z, G'.es[i.toNat]? = some z ∧ z.1 = x := by
      rw [idsE_lv, List.getElem?_map, Option.map_eq_some_iff] at hx
      exact hx
    have hzm := List.mem_of_getElem? hz
    obtain ⟨hh, he⟩ := Gr.mem_es hzm
    obtain ⟨n1, n2⟩ := g z hzm
    have t1 := toV_at n1
    have t2 := toV_at n2
    have hwz : (netE G'.nodes G'.edges)[i.toNat]? = some (toV G'.nodes z.2.1.toNat, toV G'.nodes z.2.2.toNat) := by
      rw [netE_lv _ _ 0, List.getElem?_map]
      show Option.map _ G'.es[i.toNat]? = _
      rw [hz]; rfl
    refine ok76 hroom (fun q => by rw [hh] at q; cases q) fun _ => ?_
    rw [he]
    have tail : 0 ≤ i ∧ i < (((netE G'.nodes G'.edges).length : Nat) : Int) ∧ ∀ ra_3 : (Int × Int), (netE G'.nodes G'.edges)[(Int.toNat i)]? = some ra_3 → 0 ≤ ra_3.1 ∧ ra_3.1 < (((idsN 0 G'.nodes).length : Nat) : Int) ∧ ∀ rb_5 : Int, (idsN 0 G'.nodes)[(Int.toNat ra_3.1)]? = some rb_5 → cnd (rb_5 != z.2.1) False
        (0 ≤ ra_3.2 ∧ ra_3.2 < (((idsN 0 G'.nodes).length : Nat) : Int) ∧ ∀ rb_6 : Int, (idsN 0 G'.nodes)[(Int.toNat ra_3.2)]? = some rb_6 → (rb_6 != z.2.2) = false) := by
      refine ⟨i0, by omega, fun p hp => ?_⟩
      rw [hwz] at hp
      obtain rfl := Option.some.inj hp
      refine ⟨t1.1, t1.2.1, fun y hy => ?_⟩
      rw [t1.2.2] at hy
      obtain rfl := Option.some.inj hy
      refine cnd_ne (fun q => absurd rfl q) fun _ => ⟨t2.1, t2.2.1, fun y hy => ?_⟩
      rw [t2.2.2] at hy
      obtain rfl := Option.some.inj hy
      simp
    have hr := lvE_range _ _ _ hzm
    refine ⟨fun b => b = false, ⟨False, cnd_ne (fun q => absurd rfl q) fun _ => ⟨i0, c, fun x' hx' => ?_⟩, fun q => q.elim⟩, fun b eb => cnd_f eb ⟨⟨by omega, by omega, rfl⟩, by show ((G'.es.length : Int) - (i + 1)).toNat < ((G'.es.length : Int) - i).toNat; omega⟩⟩
    rw [hx] at hx'
    obtain rfl := Option.some.inj hx'
    refine cnd_dec (fun q => by omega) fun _ => cnd_dec (fun c2 => ⟨by omega, by omega, fun y hy => cnd_dec (fun q => ?_) fun _ => tail⟩) fun _ => tail
    obtain ⟨y', hy', rfl⟩ : ∃ z, G'.es[(i - 1).toNat]? = some z ∧ z.1 = y := by
      rw [idsE_lv, List.getElem?_map, Option.map_eq_some_iff] at hy
      exact hy
    have := sorted_get (f := (·.1)) (lvE_sorted G'.edges 0) hy' hz (by omega)
    omega
  · have hnet := g.net
    have hmay : mayB ((idsN 0 G'.nodes).length : Nat) (netE G'.nodes G'.edges) = true := mayB_iff.2 ⟨⟨by omega, by omega⟩, by omega, fun p hp => endB_iff.2 (hnet p hp)⟩
    refine okOf (fun q => by rw [hmay] at q; cases q) fun _ => cnd_f rfl ?_
    rw [Int.toNat_natCast]
    have g2 := Gr.good.ofNet hnet
    obtain ⟨l1, l2, l3⟩ := ofNet_len G'.ns.length (netE G'.nodes G'.edges)
    have lns : G'.ns.length = (idsN 0 G'.nodes).length := rfl
    refine ok79 (G := ofNet (idsN 0 G'.nodes).length (netE G'.nodes G'.edges)) ⟨by show (ofNet G'.ns.length _).nodes.length + 1 < _; omega, by show (ofNet G'.ns.length _).edges.length + 1 < _; omega, by show (ofNet G'.ns.length _).undo.length + 1 < _; omega⟩ g2.inR (cnd_t rfl ?_)
    have e1 : netE (ofNet (idsN 0 G'.nodes).length (netE G'.nodes G'.edges)).nodes (ofNet (idsN 0 G'.nodes).length (netE G'.nodes G'.edges)).edges = netE G'.nodes G'.edges := by
      have := netE_of (n := (idsN 0 G'.nodes).length) (r := []) (es := netE G'.nodes G'.edges) hnet
      rwa [List.append_nil] at this
    have e2 : (idsN 0 (ofNet (idsN 0 G'.nodes).length (netE G'.nodes G'.edges)).nodes).length = (idsN 0 G'.nodes).length := idsN_rep _ _
    rw [e1, e2]
    exact okSameK (by omega) k
theorem okGraphIds {n : Int} {es : List (Int × Int)} {ops : List (Int × Int × Int × Int)} {R : Bool → Prop} (kR : R true) : Ok23 n es ops R := by
  apply ok23
  unfold T23
  refine okBegun74 (cnd_f rfl ?_)
  refine okOf (fun _ => cnd_t rfl ⟨True, cnd_t rfl trivial, fun _ => cnd_f rfl kR⟩) fun c => cnd_f rfl ⟨True, cnd_f rfl (cnd_dec (fun _ => trivial) fun c1 => cnd_dec (fun _ => cnd_t rfl kR) fun c2 => ?_), fun _ => cnd_t rfl kR⟩
  obtain ⟨⟨g0, g1⟩, hl, he⟩ := mayB_iff.1 c
  obtain ⟨m, rfl⟩ := Int.eq_ofNat_of_zero_le g0
  rw [Int.toNat_natCast]
  obtain ⟨l1, l2, l3⟩ := ofNet_len m es
  obtain ⟨J, hJ⟩ : ∃ J : Int → Int → Int → Gr → Prop, J = fun i v f G => G.good ∧ G.plain ∧ v = G.nodes.length ∧ f = G.edges.length ∧ v ≤ 200 + i ∧ f ≤ 200 + i := ⟨_, rfl⟩
  have K : ∀ (v f : Int) (G : Gr), (∃ i, i ≤ 100 ∧ J i v f G) → Ok106 G v f fun _ r => R r := by
    rintro v f G ⟨i, hi, hG⟩
    subst hJ
    obtain ⟨a1, a2, rfl, rfl, a3, a4⟩ := hG
    exact okNumbered a1 (by omega) (by omega) (by rw [a2.1]; simp) kR
  refine ⟨fun v f G => ∃ i, i ≤ 100 ∧ J i v f G, ?_, K⟩
  refine ⟨fun v f i G => 0 ≤ i ∧ i ≤ 100 ∧ J i v f G, fun _ _ i _ => ((ops.length : Int) - i).toNat, ⟨Int.le_refl 0, by omega, ?_⟩, ?_⟩
  · rw [hJ]
    exact ⟨Gr.good.ofNet fun p hp => endB_iff.1 (he p hp), ⟨rfl, rfl⟩, by rw [l1], by rw [l2], by omega, by omega⟩
  rintro v f i G ⟨i0, i1, hG⟩
  refine cnd_dec (fun c3 => cnd_dec (fun c4 => ⟨i0, c3, fun o _ => ?_⟩) fun _ => ⟨i, i1, hG⟩) fun _ => ⟨i, i1, hG⟩
  have hw : IntKind.i64.wrap (i + 1) = i + 1 := w64id (by omega) (by omega)
  rw [hw]
  refine ⟨J (i + 1), ?_, fun v' f' G' h' => ⟨⟨by omega, by omega, h'⟩, by show ((ops.length : Int) - (i + 1)).toNat < ((ops.length : Int) - i).toNat; omega⟩⟩
  have stay : J (i + 1) v f G := by
    subst hJ
    obtain ⟨a1, a2, a3, a4, a5, a6⟩ := hG
    exact ⟨a1, a2, a3, a4, by omega, by omega⟩
  have mk : ∀ (v' f' : Int) (G' : Gr), G'.good → G'.plain → v' = G'.nodes.length → f' = G'.edges.length → v' ≤ v + 1 → f' ≤ f + 1 → J (i + 1) v' f' G' := by
    subst hJ
    obtain ⟨_, _, _, _, a5, a6⟩ := hG
    exact fun v' f' G' b1 b2 b3 b4 b5 b6 => ⟨b1, b2, b3, b4, by omega, by omega⟩
  obtain ⟨a1, a2, a3, a4, a5, a6⟩ : G.good ∧ G.plain ∧ v = G.nodes.length ∧ f = G.edges.length ∧ v ≤ 200 + i ∧ f ≤ 200 + i := by rw [hJ] at hG; exact hG
  clear hG
  have ul : G.undo.length = 0 := by rw [a2.1]; rfl
  have wn : IntKind.i64.wrap (v + 1) = v + 1 := w64id (by omega) (by omega)
  have we : IntKind.i64.wrap (f + 1) = f + 1 := w64id (by omega) (by omega)
  rw [wn, we]
  refine cnd_eq (fun _ => ?_) fun _ => ⟨J (i + 1), cnd_eq (fun _ => ?_) fun _ => ⟨J (i + 1), cnd_eq (fun _ => ?_) fun _ => ⟨J (i + 1) v f, cnd_eq (fun _ => ?_) fun _ => ⟨J (i + 1) v f, cnd_eq (fun _ => ?_) fun _ => ⟨J (i + 1) v f, cnd_eq (fun _ => ?_) fun _ => stay, fun _ h => h⟩, fun _ h => h⟩, fun _ h => h⟩, fun _ _ _ h => h⟩, fun _ _ _ h => h⟩
  · refine ok97 ⟨by omega, by omega, by omega⟩ (fun _ => ⟨fun v' => J (i + 1) v' f G, cnd_f rfl stay, fun _ h => h⟩) fun _ => ⟨fun v' => J (i + 1) v' f G.addN, cnd_t rfl (cnd_ne (fun q => absurd (by rw [a3]) q) fun _ => ?_), fun _ h => h⟩
    exact mk _ _ _ a1.addN a2.addN (by rw [Gr.addN_nlen]; omega) (by rw [Gr.addN_elen]; exact a4) (by omega) (by omega)
  · refine ok98 ⟨by omega, by omega, by omega⟩ (fun _ => ⟨fun f' => J (i + 1) v f' G, cnd_f rfl stay, fun _ h => h⟩) (fun _ _ _ => ⟨fun f' => J (i + 1) v f' G, cnd_f rfl stay, fun _ h => h⟩) fun b1 b2 _ => ⟨fun f' => J (i + 1) v f' (G.addE o.2.1 o.2.2.1), cnd_t rfl (cnd_ne (fun q => absurd (by rw [a4]) q) fun _ => ?_), fun _ h => h⟩
    exact mk _ _ _ (a1.addE b1 b2) a2.addE (by rw [Gr.addE_nlen]; exact a3) (by rw [Gr.addE_elen]; omega) (by omega) (by omega)
  · refine ok77 ⟨by omega, by omega, by omega⟩ (fun _ => ⟨fun v' f' => J (i + 1) v' f' G, cnd_f rfl stay, fun _ _ h => h⟩) (fun _ _ => ⟨fun v' f' => J (i + 1) v' f' G, cnd_f rfl stay, fun _ _ h => h⟩) fun b1 _ _ => ⟨fun v' f' => J (i + 1) v' f' (G.splitG o.2.1), cnd_t rfl (cnd_ne (fun q => absurd (by rw [a3]) q) fun _ => cnd_ne (fun q => absurd (by rw [a4]) q) fun _ => ?_), fun _ _ h => h⟩
    exact mk _ _ _ (a1.split b1) a2.split (by rw [Gr.split_nlen]; omega) (by rw [Gr.split_elen]; omega) (by omega) (by omega)
  · have la : (G.at o.2.1).length ≤ G.edges.length := atL_len _ _ _
    refine ok99 ⟨by omega, by omega, by omega⟩ (fun _ => stay) fun b1 => ?_
    exact mk _ _ _ (a1.dropAll b1) a2.dropAll (by rw [Gr.dropAll_nlen]; exact a3) (by rw [Gr.dropAll_elen]; exact a4) (by omega) (by omega)
  · refine ok102 ⟨by omega, by omega, by omega⟩ (fun _ => stay) fun b1 => ?_
    obtain ⟨b2, b3⟩ := Gr.has_range b1
    exact mk _ _ _ (a1.dropE b2 b3) a2.dropE (by rw [Gr.dropE_nlen]; exact a3) (by rw [Gr.dropE_elen]; exact a4) (by omega) (by omega)
  · refine ok78 ⟨by omega, by omega, by omega⟩ (fun _ => stay) (fun _ _ => stay) (fun k f' b1 b2 b3 b4 => ?_) Gr.at_has
    exact mk _ _ _ (a1.unsplit (by omega) b1 b2 b3 b4) a2.unsplit (by rw [Gr.unsplit_nlen]; exact a3) (by rw [Gr.unsplit_elen]; exact a4) (by omega) (by omega)
end Go.Proofs.Ytmcloipjlihhlaa.N
namespace Go.Proofs.Ytmcloipjlihhlaa
open Go.X in
theorem GraphIds_ok {n : Int} {es : List (Int × Int)} {ops : List (Int × Int × Int × Int)} {h : Heap} {a0 a1 : Option Addr} {l0 c0 l1 c1 : Nat} (hp : Hp h [Ck.vw eP a0 l0 c0 es, Ck.vw e4 a1 l1 c1 ops]) :
    CallsH Try.prog 23 #[.agg #[.int .i64 n, .slice a0 l0 c0], .slice a1 l1 c1] h fun v h' => Fr [] h h' ∧ v = .bool true :=
  (N.okGraphIds (R := fun b => b = true) rfl h _ _ _ _ _ _ hp).mono fun _ _ ⟨_, Y, e, q⟩ => ⟨Y.fr, q ▸ e⟩
end Go.Proofs.Ytmcloipjlihhlaa
