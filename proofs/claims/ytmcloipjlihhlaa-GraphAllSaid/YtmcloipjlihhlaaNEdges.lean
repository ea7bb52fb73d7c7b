/- Law 4: the edges at a node, gone over, left early, gone over again. Conditions: none. -/
import Derived.Test.YtmcloipjlihhlaaSEdges
import Derived.Test.YtmcloipjlihhlaaNPlay
import Derived.Test.YtmcloipjlihhlaaNIterG
set_option linter.unusedVariables false
set_option linter.unusedSimpArgs false
namespace Go.Proofs.Ytmcloipjlihhlaa.N
open Go.X Go.Proofs.Ytmcloipjlihhlaa
set_option maxRecDepth 100000
/-- What Graph.Edges goes over. -/
def _root_.Go.X.Gr.edL (G : Gr) (v : Int) : List Int := if G.node v = true then G.at v else []
theorem g100 {G : Gr} {v : Int} (hr : G.room 1) : ∀ (h : Heap) (b : Nat) (nA : Option Addr) (nL nC : Nat) (eA : Option Addr) (eL eC : Nat) (uA : Option Addr) (uL uC : Nat) (mA : Option Addr) (mL mC : Nat),
    Hp h [Ck.vob b 0 [.bool true, .slice nA nL nC, .slice eA eL eC, .int .i64 G.ln, .int .i64 G.le, .slice uA uL uC, .slice mA mL mC, .int .i64 G.last], Ck.vw eB nA nL nC G.nodes, Ck.vw e2B eA eL eC G.edges, Ck.vw eP mA mL mC G.marks] →
    CallsH Try.prog 100 #[.pointer (some ⟨b, 0, none⟩), .int .i64 v] h fun w h' => ∃ eb oA oL oC, Sy h [] h' [Ck.ob eb 40 [.slice oA oL oC], Ck.sl eI 3 oA oL oC (G.edL v)] ∧ w = .func (.func 185) #[] #[.pointer (some ⟨eb, 0, none⟩)] := by
  intro h b nA nL nC eA eL eC uA uL uC mA mL mC hp
  obtain ⟨r1, r2, r3⟩ := hr
  have Y : Sy h [] h [_, _, _, _] := Sy.startM hp rfl
  apply calls100
  unfold S100
  intro hv
  have Y : Sy _ _ hv [_, _, _, _, _] := Y.newO (ty := 40) [.slice none 0 0]
  clear_value hv
  have t162 : T162v true G.nodes G.edges G.ln G.le G.marks G.last (fun r => r = false) := by unfold T162v; exact cnd_f rfl rfl
  refine callX_sy (ok162v t162 hv b 0 nA nL nC eA eL eC uA uL uC mA mL mC (Y.pick [0, 1, 2, 3] rfl).hp) (fun _ _ ⟨_, p, _⟩ => p.fr) alln ?_
  rintro _ hv2 ⟨x, P, rfl, rfl⟩
  have Y : Sy _ _ hv2 [_, _, _, _, _] := Y.gr P.fr
  refine ⟨false, rfl, cnd_t rfl ?_⟩
  refine callX_sy (ok167v (t167 G v (by omega)) hv2 b 0 nA nL nC eA eL eC uA uL uC mA mL mC (Y.pick [0, 1, 2, 3] rfl).hp) (fun _ _ ⟨_, p, _⟩ => p.fr) alln ?_
  rintro _ hv3 ⟨x, P, rfl, rfl⟩
  have Y : Sy _ _ hv3 [_, _, _, _, _] := Y.gr P.fr
  refine ⟨_, rfl, ?_⟩
  refine ⟨fun _ h' => ∃ oA oL oC, Sy h [] h' [Ck.ob h.size 40 [.slice oA oL oC], Ck.sl eI 3 oA oL oC (G.edL v)], cnd_b (fun c => ?_) (fun c => ?_), fun hv6 ⟨oA, oL, oC, Y⟩ => ⟨_, oA, oL, oC, Y, rfl⟩⟩
  · refine callX_sy (ok168v (t168 G v (by omega)) hv3 b 0 nA nL nC eA eL eC uA uL uC mA mL mC (Y.pick [0, 1, 2, 3] rfl).hp) (fun _ _ ⟨_, _, _, _, p, _⟩ => p.fr) alln ?_
    rintro _ hv4 ⟨rA, rL, rC, l, P, rfl, rfl⟩
    have Y : Sy _ _ hv4 [_, _, _, _, _, _] := Y.callV P ⟨rfl, trivial⟩
    refine ⟨_, _, _, rfl, ⟨_, Y.cellO 4 rfl 0 rfl⟩, Y.freeO 4 rfl _, ?_⟩
    intro hv5
    have Y : Sy _ _ hv5 [_, _, _, _, _, _] := Y.stO 4 rfl 0 _
    exact ⟨_, _, _, by rw [Gr.edL, if_pos c]; exact Y.pick [4, 5] rfl⟩
  · have Y : Sy _ _ hv3 [_, _, _, _, _, _] := Y.nilS eI 3
    exact ⟨_, _, _, by rw [Gr.edL, if_neg (by rw [c]; simp)]; exact Y.pick [4, 5] rfl⟩
theorem fr_hsetE {a b : Heap} (f : Fr [] a b) {c o : Nat} (v : Value) (hc : c < a.size) : Fr [] (hset a c o v) (hset b c o v) := by
  refine ⟨by simpa using f.size, fun x hx _ => ?_⟩
  rw [size_hset] at hx
  have e := f.blk x hx (by simp)
  by_cases q : x = c
  · subst q
    simp only [hset, Array.getElem?_modify, if_pos rfl, e]
  · rw [hset_ne q, hset_ne q]; exact e
theorem shut_cellE {B : Nat} {a b : Heap} (s : Shut B a b) {c o : Nat} {v : Value} (h : hcell a c o = some v) : hcell b c o = some v := by
  have e : b[c]? = a[c]? := s.2 c (.inr (by
    unfold hcell at h
    split at h
    · rename_i x t f hx; exact ⟨x, t, f, hx⟩
    · cases h))
  rw [hcell_congr e]; exact h
theorem handL_get {l : List Int} {j : Nat} {v : Int} (h : (handL l)[j]? = some [.int .i64 v]) : l[j]? = some v := by
  unfold handL at h
  rw [List.getElem?_map] at h
  cases hv : l[j]? with
  | none => rw [hv] at h; cases h
  | some x =>
    rw [hv] at h
    simp only [Option.map_some, Option.some.injEq, List.cons.injEq, Value.int.injEq, true_and, and_true] at h
    rw [h]
theorem shut_frE {h a b : Heap} (s : Shut h.size a b) (f : Fr [] h a) : Fr [] h b := ⟨by rw [s.1]; exact f.size, fun x hx hm => (s.2 x (.inl hx)).trans (f.blk x hx hm)⟩
theorem take_next {l w : List Int} {i : Nat} {x : Int} (h1 : l.take i = w.take i) (h2 : l[i]? = some x) (h3 : w[i]? = some x) : l.take (i + 1) = w.take (i + 1) := by
  rw [List.take_add_one, List.take_add_one, h1, h2, h3]
set_option maxHeartbeats 4000000 in
theorem edges_calls {U : RunS} {v : Int} (hr : U.a.room 1) (hf : fits U.b.s 900000) (hl : (U.a.edL v).length ≤ 1000000) (hw : (U.b.s.edges v).length ≤ 1000000) (h : Heap) (rb ab : Nat) (bs : List Nat) (hp : Hp h [Ck.ru rb ab bs U]) :
    CallsH Try.prog 194 #[.pointer (some ⟨rb, 0, none⟩), .int .i64 v] h fun x h' => Fr [] h h' ∧ ∃ r, x = .bool r ∧ (U.a.edL v = U.b.s.edges v → r = true) := by
  have Y0 : Sy h _ h [_] := Sy.startM hp rfl
  obtain ⟨abs, bb, bbs, mA, mL, mC, Y1⟩ := Y0.openU
  have Y2 : Sy h _ h [_, _, _, _] := Y1.pick [1, 0, 2, 3] rfl
  obtain ⟨nA, nL, nC, eA, eL, eC, uA, uL, uC, rs, kA, kL, kC, Y3⟩ := Y2.openG
  have Y4 : Sy h _ h [_, _, _, _, _, _, _, _] := Y3.pick [6, 0, 1, 2, 3, 4, 5, 7] rfl
  obtain ⟨dnA, dnL, dnC, deA, deL, deC, dmA, dmL, dmC, ps, q, Y5⟩ := Y4.openD
  have Yv := (((((((Y5.turn 0 rfl To.obvob).turn 1 rfl To.slvw).turn 2 rfl To.slvw).turn 5 rfl To.obvob).turn 6 rfl To.slvw).turn 7 rfl To.slvw).turn 9 rfl To.slvw).turn 10 rfl To.obvob
  have H : Hp h [_, _, _, _, _, _, _, _] := (Yv.pick [10, 5, 6, 7, 9, 0, 1, 2] rfl).hp
  clear Y0 Y1 Y2 Y3 Y4 Y5 Yv
  have Y : Sy h [] h [_, _, _, _, _, _, _, _] := Sy.startM H rfl
  apply calls194
  unfold S194
  intro hv
  have Y : Sy _ _ hv [_, _, _, _, _, _, _, _, _] := Y.newO (ty := 4) [.bool false]
  clear_value hv
  refine ⟨rb, 0, rfl, _, Y.cellW 0 rfl 0 rfl, ?_⟩
  refine callX_sy (g100 (v := v) hr hv ab nA nL nC eA eL eC uA uL uC kA kL kC (Y.pick [1, 2, 3, 4] rfl).hp) (fun _ _ ⟨_, _, _, _, p, _⟩ => p.fr) alln ?_
  rintro _ hv2 ⟨eb, oA, oL, oC, P, rfl⟩
  have Y : Sy _ _ hv2 [_, _, _, _, _, _, _, _, _, _, _] := Y.callV P ⟨rfl, rfl, trivial⟩
  obtain rfl := Y.lenS 10 rfl
  refine ⟨_, _, _, rfl, cnd_f rfl ⟨rb, 0, rfl, _, Y.cellW 0 rfl 1 rfl, ?_⟩⟩
  have cd : Ok222v U.b.s.ns U.b.s.es U.b.s.nn U.b.s.ne U.b.last v (fun r => r = U.b.s.edges v) := okV222 (s := U.b.s) ⟨Nat.le_trans hf.1 (by decide), Nat.le_trans hf.2 (by decide)⟩ rfl
  refine callX_sy (cd hv2 bb 0 dnA dnL dnC deA deL deC dmA dmL dmC (Y.pick [5, 6, 7] rfl).hp) (fun _ _ ⟨_, _, _, _, p, _⟩ => p.fr) alln ?_
  rintro _ hv4 ⟨wA, wL, wC, w', P, rfl, rfl⟩
  have Y : Sy _ _ hv4 [_, _, _, _, _, _, _, _, _, _, _, _] := Y.callV P ⟨rfl, trivial⟩
  obtain rfl := Y.lenS 11 rfl
  refine ⟨_, _, _, rfl, ?_⟩
  intro hv5
  have Y : Sy _ _ hv5 [_, _, _, _, _, _, _, _, _, _, _, _, _] := Y.newO (ty := 40) [.slice none 0 0]
  clear_value hv5
  refine ⟨⟨_, Y.cellO 12 rfl 0 rfl⟩, Y.freeO 12 rfl 0, ?_⟩
  intro hv6
  have Y : Sy _ _ hv6 [_, _, _, _, _, _, _, _, _, _, _, _, _] := Y.stO 12 rfl 0 _
  clear_value hv6
  intro hv7
  have Y : Sy _ _ hv7 [_, _, _, _, _, _, _, _, _, _, _, _, _, _] := Y.newO (ty := 3) [.int .i64 0]
  clear_value hv7
  refine ⟨⟨_, Y.cellO 13 rfl 0 rfl⟩, Y.freeO 13 rfl 0, ?_⟩
  intro hv8
  have Y : Sy _ _ hv8 [_, _, _, _, _, _, _, _, _, _, _, _, _, _] := Y.stO 13 rfl 0 (.int .i64 0)
  clear_value hv8
  have Y := Y.pick [8, 9, 10, 12, 11, 13] rfl
  -- what stands at the head of a turn
  clear cd
  generalize U.a.edL v = l at *
  generalize U.b.s.edges v = w at *
  obtain ⟨cs, hcs⟩ : ∃ cs : Bool → Nat → Int → List Ck, cs = fun res tb turn => [Ck.ob h.size 4 [.bool res], Ck.ob eb 40 [.slice oA l.length oC], Ck.sl eI 3 oA l.length oC l, Ck.ob hv4.size 40 [.slice wA w.length wC], Ck.sl eI 3 wA w.length wC w, Ck.ob tb 3 [.int .i64 turn]] := ⟨_, rfl⟩
  refine ⟨fun lz h' => ∃ (tb turn : Nat), lz = [.pointer (some ⟨tb, 0, none⟩)] ∧ turn ≤ 2 ∧ Sy h [] h' (cs false tb turn),
    fun lz h' => (match lz with | [.pointer (some a)] => (match hcell h' a.block 0 with | some (.int _ x) => (2 - x).toNat | _ => 0) | _ => 0), ⟨_, 0, rfl, by decide, by rw [hcs]; exact Y⟩, ?_⟩
  rintro _ hv8 ⟨tb, turn, e, hturn, Y⟩
  cases e
  rw [hcs] at Y
  have mAt : ∀ {hw : Heap} {t : Nat} {x : Int}, hcell hw t 0 = some (.int .i64 x) → (match ([.pointer (some (⟨t, 0, none⟩ : Addr))] : List Value) with | [.pointer (some a)] => (match hcell hw a.block 0 with | some (.int _ x) => (2 - x).toNat | _ => 0) | _ => 0) = (2 - x).toNat := fun hc => by
    simp only [hc]
  -- the end
  have out : ∀ (r : Bool) (hx : Heap), Sy h [] hx [Ck.ob h.size 4 [.bool r]] → (l = w → r = true) → ∀ hz : Heap, Shut h.size hx hz → ∃ x : Bool, hcell hz h.size 0 = some (.bool x) ∧ Fr [] h hz ∧ ∃ r', (Value.bool x : Value) = .bool r' ∧ (l = w → r' = true) :=
    fun r hx Y q hz s => ⟨r, shut_cellE s (Y.cellO 0 rfl 0 rfl), shut_frE s Y.fr, r, rfl, q⟩
  have bad : ∀ (hx : Heap) {tb' : Nat} {tr : Int}, Sy h [] hx (cs false tb' tr) → l ≠ w → (∃ u, hcell hx h.size 0 = some u) ∧ hfree hx h.size 0 = true ∧ ∀ hz : Heap, Shut h.size (hset hx h.size 0 (.bool false)) hz → ∃ x : Bool, hcell hz h.size 0 = some (.bool x) ∧ Fr [] h hz ∧ ∃ r', (Value.bool x : Value) = .bool r' ∧ (l = w → r' = true) := by
    intro hx tb' tr Y hne
    rw [hcs] at Y
    have Y2 : Sy _ _ (hset hx h.size 0 (.bool false)) [_, _, _, _, _, _] := Y.stO 0 rfl 0 _
    exact ⟨⟨_, Y.cellO 0 rfl 0 rfl⟩, Y.freeO 0 rfl 0, out false _ (Y2.pick [0] rfl) fun e => absurd e hne⟩
  refine ⟨tb, 0, rfl, turn, Y.cellO 5 rfl 0 rfl, ?_⟩
  refine cnd_dec (fun hlt => ?_) fun _ => ?_
  · have hc8 := Y.cellO 5 rfl 0 rfl
    have hsb : eb < hv8.size := blk_lt (Y.ok (k := 1) rfl)
    have hso : ∀ x ∈ rdOf oA l.length, x < hv8.size := fun x hx => (Y.ok (k := 2) rfl : _ ∧ _).1.lt x (rdOf_sub hx)
    intro hv9
    have hs9 : hv9.size = hv8.size + 1 := by simp [hv9]
    have Y : Sy _ _ hv9 [_, _, _, _, _, _, _] := Y.newO (ty := 3) [.int .i64 0]
    clear_value hv9
    refine ⟨⟨_, Y.cellO 6 rfl 0 rfl⟩, Y.freeO 6 rfl 0, ?_⟩
    intro hv10
    have hs10 : hv10.size = hv8.size + 1 := by simp [hv10, hs9]
    have Y : Sy _ _ hv10 [_, _, _, _, _, _, _] := Y.stO 6 rfl 0 (.int .i64 0)
    clear_value hv10
    -- the next turn
    have next : ∀ (hw : Heap), Sy h [] hw (cs false tb turn) → ∃ b o, some (⟨tb, 0, none⟩ : Addr) = some ⟨b, o, none⟩ ∧ ∃ x : Int, hcell hw b o = some (.int .i64 x) ∧ let hw1 : Heap := hw.push (.cells #[.int .i64 0] 3)
        (∃ u, hcell hw1 hw.size 0 = some u) ∧ hfree hw1 hw.size 0 = true ∧ let hw2 : Heap := hset hw1 hw.size 0 (.int .i64 x)
        ∃ x2 : Int, hcell hw2 hw.size 0 = some (.int .i64 x2) ∧ (∃ u, hcell hw2 hw.size 0 = some u) ∧ hfree hw2 hw.size 0 = true ∧ let hw3 : Heap := hset hw2 hw.size 0 (.int .i64 (IntKind.i64.wrap (x2 + (1 : Int))))
        (∃ (tb' turn' : Nat), ([.pointer (some (⟨hw.size, 0, none⟩ : Addr))] : List Value) = [.pointer (some ⟨tb', 0, none⟩)] ∧ turn' ≤ 2 ∧ Sy h [] hw3 (cs false tb' turn')) ∧
          (match ([.pointer (some (⟨hw.size, 0, none⟩ : Addr))] : List Value) with | [.pointer (some a)] => (match hcell hw3 a.block 0 with | some (.int _ x) => (2 - x).toNat | _ => 0) | _ => 0) <
            (match ([.pointer (some (⟨tb, 0, none⟩ : Addr))] : List Value) with | [.pointer (some a)] => (match hcell hv8 a.block 0 with | some (.int _ x) => (2 - x).toNat | _ => 0) | _ => 0) := by
      intro hw Yw
      rw [hcs] at Yw
      refine ⟨tb, 0, rfl, turn, Yw.cellO 5 rfl 0 rfl, ?_⟩
      intro hw1
      have Yw : Sy _ _ hw1 [_, _, _, _, _, _, _] := Yw.newO (ty := 3) [.int .i64 0]
      clear_value hw1
      refine ⟨⟨_, Yw.cellO 6 rfl 0 rfl⟩, Yw.freeO 6 rfl 0, ?_⟩
      intro hw2
      have Yw : Sy _ _ hw2 [_, _, _, _, _, _, _] := Yw.stO 6 rfl 0 (.int .i64 turn)
      clear_value hw2
      refine ⟨turn, Yw.cellO 6 rfl 0 rfl, ⟨_, Yw.cellO 6 rfl 0 rfl⟩, Yw.freeO 6 rfl 0, ?_⟩
      intro hw3
      have Yw : Sy _ _ hw3 [_, _, _, _, _, _, _] := Yw.stO 6 rfl 0 (.int .i64 (IntKind.i64.wrap ((turn : Int) + 1)))
      clear_value hw3
      rw [wr (by omega) (by omega)] at Yw
      refine ⟨⟨hw.size, turn + 1, rfl, by omega, by rw [hcs]; exact Yw.pick [0, 1, 2, 3, 4, 6] rfl⟩, ?_⟩
      rw [mAt (Yw.cellO 6 rfl 0 rfl), mAt hc8]
      omega
    refine ⟨185, #[.pointer (some ⟨eb, 0, none⟩)], rfl, rfl, handL l, [hv8.size], fun o h1 => ∃ c : Nat, Sy h [] h1 (cs false tb turn ++ [Ck.ob hv8.size 3 [.int .i64 c]]) ∧ c ≤ w.length ∧ ∀ i, o = some i → c = i ∧ i ≤ l.length ∧ l.take i = w.take i ∧ ((turn : Int) = 0 → i ≤ 1), ?_, ?_, ⟨0, by rw [hcs]; exact Y, Nat.zero_le _, fun i e => by cases e; exact ⟨rfl, Nat.zero_le _, rfl, fun _ => by decide⟩⟩, ?_, ?_⟩
    · intro x hx K hK
      unfold handL at hx
      obtain ⟨v, _, rfl⟩ := List.mem_map.1 hx
      exact hK v
    · exact iter185 (by omega) (by simp; omega) (Y.cellO 1 rfl 0 rfl) (Y.readsS 2 rfl) (fun x hx => by have := hso x hx; exact ⟨by omega, by simp; omega⟩) hl
    · intro o j h1 hv11 hi ⟨c, Y1, hc, hI⟩ hsz hF ev hx
      rw [handL_len] at hi
      rw [hcs] at Y1
      have Y2 : Sy h [] hv11 [_, _, _, _, _, _, _] := Y1.gr hF
      have hj := handL_get hx
      -- left: not the same
      have away : (∀ i, o = some i → j = i → l ≠ w) → (∃ u, hcell hv11 h.size 0 = some u) ∧ hfree hv11 h.size 0 = true ∧ ∃ h2 : Heap, h2.size = hv10.size ∧ Fr [] h2 (hset hv11 h.size 0 (.bool false)) ∧ (o = some j → ∀ hw : Heap, Fr [] h2 hw → ∀ hz : Heap, Shut h.size hw hz → ∃ x : Bool, hcell hz h.size 0 = some (.bool x) ∧ Fr [] h hz ∧ ∃ r', (Value.bool x : Value) = .bool r' ∧ (l = w → r' = true)) := by
        intro hne
        refine ⟨⟨_, Y2.cellO 0 rfl 0 rfl⟩, Y2.freeO 0 rfl 0, hset h1 h.size 0 (.bool false), by simpa using hsz, fr_hsetE hF _ (blk_lt (Y1.ok (k := 0) rfl)), fun e hw fw => ?_⟩
        have Y3 : Sy h [] (hset h1 h.size 0 (.bool false)) [_, _, _, _, _, _, _] := Y1.stO 0 rfl 0 (.bool false)
        have Y4 : Sy h [] hw [_] := (Y3.gr fw).pick [0] rfl
        exact out false hw Y4 fun e2 => absurd e2 (hne j e rfl)
      refine ⟨c, Y2.cellO 6 rfl 0 rfl, _, _, _, Y2.cellO 3 rfl 0 rfl, cnd_dec (fun q => ?_) fun q => ?_⟩
      · refine away fun i e1 e2 el => ?_
        obtain ⟨rfl, -, -, -⟩ := hI i e1
        have := hi c e1
        rw [el] at this
        omega
      obtain ⟨wb, hb, _, x6, hx6⟩ := Y2.atS 4 rfl (i := (c : Int)) (by omega) (by omega)
      refine ⟨_, _, _, Y2.cellO 3 rfl 0 rfl, c, Y2.cellO 6 rfl 0 rfl, wb, 0, hb, by omega, by omega, x6, Y2.cellS 4 rfl hb (t := 0) hx6 rfl, ?_⟩
      rw [Int.toNat_natCast] at hx6
      refine cnd_ne (fun q2 => ?_) fun q2 => ?_
      · refine away fun i e1 e2 el => ?_
        obtain ⟨rfl, -, -, -⟩ := hI i e1
        subst e2
        rw [el, hx6] at hj
        exact q2 (Option.some.inj hj).symm
      subst q2
      refine ⟨c, Y2.cellO 6 rfl 0 rfl, ⟨_, Y2.cellO 6 rfl 0 rfl⟩, Y2.freeO 6 rfl 0, ?_⟩
      rw [wr (x := (c : Int) + 1) (by omega) (by omega), show (c : Int) + 1 = ((c + 1 : Nat) : Int) from rfl]
      intro hv14
      have lt8 : hv8.size < h1.size := by omega
      have F14 : Fr [hv8.size] hv11 hv14 := Fr.hset hv11 hv8.size 0 _
      have G14 : Fr [] (hset h1 hv8.size 0 (.int .i64 ((c + 1 : Nat) : Int))) hv14 := fr_hsetE hF _ lt8
      have Y3 : Sy h [] (hset h1 hv8.size 0 (.int .i64 ((c + 1 : Nat) : Int))) [_, _, _, _, _, _, _] := Y1.stO 6 rfl 0 (.int .i64 ((c + 1 : Nat) : Int))
      have Y4 : Sy h [] hv14 [_, _, _, _, _, _, _] := Y2.stO 6 rfl 0 (.int .i64 ((c + 1 : Nat) : Int))
      clear_value hv14
      have goOn : (∀ i, o = some i → j = i → ((turn : Int) = 0 → i + 1 ≤ 1)) → Fr [hv8.size] hv11 hv14 ∧ ∃ h2 : Heap, h2.size = hv10.size ∧ Fr [] h2 hv14 ∧ ∃ c : Nat, Sy h [] h2 (cs false tb turn ++ [Ck.ob hv8.size 3 [.int .i64 c]]) ∧ c ≤ w.length ∧ ∀ i, nxt o j = some i → c = i ∧ i ≤ l.length ∧ l.take i = w.take i ∧ ((turn : Int) = 0 → i ≤ 1) := by
        intro ht
        refine ⟨F14, _, by simpa using hsz, G14, c + 1, by rw [hcs]; exact Y3, by omega, fun i e => ?_⟩
        unfold nxt at e
        split at e
        · rename_i eo
          obtain rfl := Option.some.inj e
          obtain ⟨e1, e2, e3, e4⟩ := hI j eo
          subst e1
          exact ⟨rfl, hi c eo, take_next e3 hj hx6, ht c eo rfl⟩
        · cases e
      refine ⟨tb, 0, rfl, turn, Y4.cellO 5 rfl 0 rfl, cnd_eq (fun t0 => ?_) fun t0 => goOn fun i e1 e2 z => absurd z t0⟩
      refine ⟨_, Y4.cellO 6 rfl 0 rfl, cnd_eq (fun q3 => ?_) fun q3 => goOn fun i e1 e2 z => ?_⟩
      · refine ⟨_, by simpa using hsz, G14, fun eo hw3 hF3 => ?_⟩
        have Y5 : Sy h [] hw3 [_, _, _, _, _, _, _] := Y3.gr hF3
        have nx := next hw3 (by rw [hcs]; exact Y5.pick [0, 1, 2, 3, 4, 5] rfl)
        refine ⟨_, Y5.cellO 6 rfl 0 rfl, _, _, _, Y5.cellO 3 rfl 0 rfl, cnd_ne (fun _ => ⟨tb, 0, rfl, turn, Y5.cellO 5 rfl 0 rfl, cnd_dec (fun z => by omega) fun _ => ⟨_, Y5.cellO 6 rfl 0 rfl, cnd_ne (fun z => absurd q3 z) fun _ => nx⟩⟩) fun _ => nx⟩
      · obtain ⟨e3, -, -, e4⟩ := hI i e1
        have := e4 z
        omega
    · intro h1 hv23 ⟨c, Y1, hc, hI⟩ hsz hF
      rw [hcs, handL_len] at *
      obtain ⟨rfl, -, h3, h4⟩ := hI _ rfl
      have Y2 : Sy h [] hv23 [_, _, _, _, _, _, _] := Y1.gr hF
      have nx := next hv23 (Y2.pick [0, 1, 2, 3, 4, 5] rfl)
      refine ⟨_, Y2.cellO 6 rfl 0 rfl, _, _, _, Y2.cellO 3 rfl 0 rfl, cnd_ne (fun q => ?_) fun _ => nx⟩
      have hne : l ≠ w := fun e => q (by rw [e])
      have bd := bad hv23 (tb' := tb) (tr := turn) (Y2.pick [0, 1, 2, 3, 4, 5] rfl) hne
      refine ⟨tb, 0, rfl, turn, Y2.cellO 5 rfl 0 rfl, cnd_dec (fun z => bd) fun _ => ⟨_, Y2.cellO 6 rfl 0 rfl, cnd_ne (fun z => bd) fun _ => nx⟩⟩
  · refine ⟨⟨_, Y.cellO 0 rfl 0 rfl⟩, Y.freeO 0 rfl 0, ?_⟩
    intro hv32
    have Y : Sy _ _ hv32 [_, _, _, _, _, _] := Y.stO 0 rfl 0 (.bool true)
    exact out true hv32 (Y.pick [0] rfl) fun _ => rfl
theorem okEdges {U : RunS} {v : Int} {R : Bool → Prop} (hr : U.a.room 1) (hf : fits U.b.s 900000) (hl : (U.a.edL v).length ≤ 1000000) (hw : (U.b.s.edges v).length ≤ 1000000) (z : ∀ r, (U.a.edL v = U.b.s.edges v → r = true) → R r) : Ok194 U v R :=
  fun h rb ab bs hp => (edges_calls hr hf hl hw h rb ab bs hp).mono fun x h' ⟨F, r, e, q⟩ => ⟨bs, r, (Sy.startM hp rfl : Sy h _ h [_]).gr F, e, z r q⟩
end Go.Proofs.Ytmcloipjlihhlaa.N
