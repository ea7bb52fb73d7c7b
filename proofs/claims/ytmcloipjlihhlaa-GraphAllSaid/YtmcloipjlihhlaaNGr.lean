/- Package graph's inner functions: what they make of a graph. Conditions: none. -/
import Derived.Test.YtmcloipjlihhlaaSGraph
import Derived.Test.YtmcloipjlihhlaaYGr
import Derived.Test.YtmcloipjlihhlaaYMore
namespace Go.X
def Gr.did (G : Gr) (u : Und) : Gr :=
  match G.marks with
  | [] => G
  | _ :: _ => { G with undo := G.undo ++ [u] }
abbrev w64 (x : Int) : Int := IntKind.i64.wrap x
def Gr.addN (G : Gr) : Gr := Gr.did { G with nodes := G.nodes ++ [true], ln := w64 (G.ln + 1) } .popN
def Gr.addE (G : Gr) (u v : Int) : Gr := Gr.did { G with edges := G.edges ++ [(u, v, true)], le := w64 (G.le + 1) } .popE
def Gr.setN (G : Gr) (v : Int) (l : Bool) (d : Int) : Gr := { G with nodes := G.nodes.set (v - 1).toNat l, ln := w64 (G.ln + d) }
def Gr.setE (G : Gr) (e : Int) (l : Bool) (d : Int) : Gr := { G with edges := G.edges.modify (e - 1).toNat fun x => (x.1, x.2.1, l), le := w64 (G.le + d) }
def putEnd (x : Int × Int × Bool) (en v : Int) : Int × Int × Bool := if en = 0 then (v, x.2.1, x.2.2) else (x.1, v, x.2.2)
def endOf (x : Int × Int × Bool) (en : Int) : Int := if en = 0 then x.1 else x.2.1
def Gr.setEnd (G : Gr) (e en v : Int) : Gr := { G with edges := G.edges.modify (e - 1).toNat fun x => putEnd x en v }
def Gr.edgeAt (G : Gr) (e : Int) : Int × Int × Bool := G.edges.getD (e - 1).toNat (0, 0, false)
def Gr.dropN (G : Gr) (v : Int) : Gr := (G.setN v false (-1)).did (.node v)
def Gr.dropE (G : Gr) (e : Int) : Gr := (G.setE e false (-1)).did (.edge e)
def Gr.move (G : Gr) (e en v : Int) : Gr := (G.setEnd e en v).did (.ends e en (endOf (G.edgeAt e) en))
end Go.X
namespace Go.Proofs.Ytmcloipjlihhlaa
open Go.X

theorem owns_gr {b : Nat} {bs : List Nat} {G : Gr} : owns [Ck.gr b bs G] = bs := by simp [owns, Ck.gr]
/-- Called with a graph alone, and other values. -/
def GC (n : Nat) (args : List Value) (G : Gr) (R : Value → Gr → Prop) : Prop :=
  ∀ (h : Heap) (b : Nat) (bs : List Nat), Hp h [Ck.gr b bs G] → CallsH Try.prog n (Value.pointer (some ⟨b, 0, none⟩) :: args).toArray h fun v h' => ∃ bs' G', Sy h bs h' [Ck.gr b bs' G'] ∧ R v G'
section
variable {h0 h : Heap} {M H : List Nat} {B : List Ck} {b n : Nat} {bs : List Nat} {args : List Value} {G : Gr} {R R' : Value → Gr → Prop} {K : Value → Heap → Prop}
theorem GC.mono (c : GC n args G R) (hr : ∀ v G', R v G' → R' v G') : GC n args G R' :=
  fun h b bs hp => (c h b bs hp).mono fun v _ ⟨bs', G', P, r⟩ => ⟨bs', G', P, hr v G' r⟩
theorem GC.step (c : GC n args G R) (Y : Sy h0 M h (Ck.gr b bs G :: B)) (hH : ∀ x ∈ H, x ∉ bs) (k : ∀ v h' bs' G', Sy h0 M h' (Ck.gr b bs' G' :: B) → R v G' → K v h') :
    callX Try.prog n (Value.pointer (some ⟨b, 0, none⟩) :: args).toArray h H K :=
  callX_sy (c h b bs (Hp.one (Y.ok (k := 0) rfl))) (fun _ _ ⟨_, _, p, _⟩ => p.fr) hH fun v h' ⟨bs', G', P, r⟩ =>
    k v h' bs' G' (Sy.call (A := [Ck.gr b bs G]) (cs' := [Ck.gr b bs' G']) Y (owns_gr.symm ▸ P) ⟨rfl, trivial⟩) r
end

theorem set_modify {α : Type} {l : List α} {i : Nat} {x : α} {f : α → α} (h : l[i]? = some x) : l.set i (f x) = l.modify i f := by
  apply List.ext_getElem?
  intro j
  rw [List.getElem?_set, List.getElem?_modify]
  have hi := (List.getElem?_eq_some_iff.1 h).1
  by_cases hj : i = j
  · subst hj
    obtain ⟨_, rfl⟩ := List.getElem?_eq_some_iff.1 h
    simp [hi]
  · simp [hj]
theorem g161 : ∀ h : Heap, CallsH Try.prog 161 #[] h fun v h' => ∃ b bs, Sy h [] h' [Ck.gr b bs ⟨[], [], 0, 0, [], [], 0⟩] ∧ v = .pointer (some ⟨b, 0, none⟩) := by
  intro h
  apply calls161
  unfold S161
  intro hv
  have Y0 : Sy h [] h [] := ⟨Fr.refl _ _, Hp.nil h, fun k c hk => by simp at hk⟩
  have Y : Sy h [] hv [Ck.ob h.size 204 _] := Y0.newO _
  have Y : Sy h [] hv [_, _] := Y.nilS eB 4
  have Y : Sy h [] hv [_, _, _] := Y.nilS e2B 199
  have Y : Sy h [] hv [_, _, _, _] := Y.nilU
  have Y : Sy h [] hv [_, _, _, _, _] := Y.nilS eP 226
  exact ⟨_, _, Sy.packG (⟨[], [], 0, 0, [], [], 0⟩) (B := []) Y, rfl⟩
theorem g162 (G : Gr) : GC 162 [] G fun v G' => v = .bool false ∧ G' = G := by
  intro h b bs hp
  have Y : Sy h bs h [_] := Sy.startM hp owns_gr
  obtain ⟨nA, nL, nC, eA, eL, eC, uA, uL, uC, rs, mA, mL, mC, Y'⟩ := Y.openG
  apply calls162
  unfold S162
  refine cnd_f rfl ⟨b, 0, rfl, true, Y'.cellO 0 rfl 0 rfl, ?_⟩
  exact ⟨bs, G, Y, rfl, rfl⟩
theorem g211 (G : Gr) (u : Und) (hu : G.undo.length + 1 < 1000000000000) : ∀ (h : Heap) (b : Nat) (bs : List Nat) (r : FnR), Hp h [Ck.gr b bs G, Ck.fv r u] →
    CallsH Try.prog 211 #[.pointer (some ⟨b, 0, none⟩), r.val] h fun v h' => ∃ bs', Sy h (owns [Ck.gr b bs G, Ck.fv r u]) h' [Ck.gr b bs' (G.did u)] ∧ v = .tuple #[] := by
  intro h b bs r hp
  have Y0 : Sy h _ h [_, _] := Sy.startM hp rfl
  obtain ⟨nA, nL, nC, eA, eL, eC, uA, uL, uC, rs, mA, mL, mC, Y⟩ := Y0.openG
  have Y : Sy h _ h [_, _, _, _, _, _] := Y
  obtain rfl := Y.lenS 4 rfl
  obtain rfl := Y.lenU 3 rfl
  apply calls211
  unfold S211
  refine ⟨b, 0, rfl, _, _, _, Y.cellO 0 rfl 6 rfl, fun _ h5 => ∃ bs', Sy h (owns [Ck.gr b bs G, Ck.fv r u]) h5 [Ck.gr b bs' (G.did u)], ?_, fun hv5 ⟨bs', P⟩ => ⟨bs', P, rfl⟩⟩
  cases hm : G.marks with
  | nil =>
    refine cnd_f (by simp) ⟨bs, ?_⟩
    have e : G.did u = G := by simp [Gr.did, hm]
    rw [e]
    exact Y0.pick [0] rfl
  | cons m ms =>
    refine cnd_t (by simp) ⟨b, 0, rfl, _, _, _, Y.cellO 0 rfl 5 rfl, ?_⟩
    intro hv
    have Y : Sy _ _ hv [_, _, _, _, _, _, _] := Y.junk _
    refine ⟨_, Y.ownU 3 rfl, allc (Y.nJU 3 6 rfl rfl rfl) alln, appB hu (by decide), appM hu, ?_⟩
    intro sA sC hv3 ow fA gA gB
    have Y : Sy _ _ hv3 [_, _, _, _, _, _, _] := Y.appU 3 5 rfl rfl rfl ow fA gA
    refine ⟨b, 0, rfl, Y.neJ 0 6 rfl rfl rfl (by simp [Ck.ob]), ⟨_, Y.cellO 0 rfl 5 rfl⟩, Y.freeO 0 rfl _, ?_⟩
    intro hv4
    have Y : Sy _ _ hv4 [_, _, _, _, _, _, _] := Y.stO 0 rfl 5 _
    have e : G.did u = { G with undo := G.undo ++ [u] } := by simp [Gr.did, hm]
    rw [e]
    refine ⟨_, Sy.packG ({ G with undo := G.undo ++ [u] }) (B := []) (Y.pick [0, 1, 2, 3, 4] rfl)⟩
theorem did_step {h0 h : Heap} {M H : List Nat} {B : List Ck} {b : Nat} {bs : List Nat} {G : Gr} {K : Value → Heap → Prop} {r : FnR} {u : Und}
    (Y : Sy h0 M h (Ck.gr b bs G :: Ck.fv r u :: B)) (hu : G.undo.length + 1 < 1000000000000) (hH : ∀ x ∈ H, x ∉ owns [Ck.gr b bs G, Ck.fv r u]) (k : ∀ h' bs', Sy h0 M h' (Ck.gr b bs' (G.did u) :: B) → K (.tuple #[]) h') :
    callX Try.prog 211 #[.pointer (some ⟨b, 0, none⟩), r.val] h H K :=
  callX_sy (g211 G u hu h b bs r ⟨fun _ _ hk => Y.ok (appL (A := [Ck.gr b bs G, Ck.fv r u]) hk), fun i j c d hij hi hj => Y.hp.ap i j c d hij (appL (A := [Ck.gr b bs G, Ck.fv r u]) hi) (appL (A := [Ck.gr b bs G, Ck.fv r u]) hj)⟩)
    (fun _ _ ⟨_, p, _⟩ => p.fr) hH fun _ h' ⟨bs', P, e⟩ => e ▸ k h' bs' (Sy.call (A := [Ck.gr b bs G, Ck.fv r u]) (cs' := [Ck.gr b bs' (G.did u)]) Y P ⟨rfl, trivial⟩)
theorem g164 (G : Gr) (hu : G.undo.length + 1 < 1000000000000) (hn : G.nodes.length + 1 < 1000000000000) : GC 164 [] G fun v G' => v = .int .i64 ((G.nodes.length : Int) + 1) ∧ G' = G.addN := by
  intro h b bs hp
  have Y0 : Sy h bs h [_] := Sy.startM hp owns_gr
  obtain ⟨nA, nL, nC, eA, eL, eC, uA, uL, uC, rs, mA, mL, mC, Y⟩ := Y0.openG
  have Y : Sy h bs h [_, _, _, _, _] := Y
  obtain rfl := Y.lenS 1 rfl
  apply calls164
  unfold S164
  refine ⟨b, 0, rfl, _, _, _, Y.cellO 0 rfl 1 rfl, ?_⟩
  intro hv
  have Y : Sy _ _ hv [_, _, _, _, _, _] := Y.junk _
  refine ⟨_, Y.ownS 1 rfl, allc (Y.nJ 1 5 rfl rfl rfl) alln, appB hn (by decide), appM hn, ?_⟩
  intro sA sC hv3 ow fA gA gB
  have Y : Sy _ _ hv3 [_, _, _, _, _, _] := Y.appS 1 rfl ([true] : List Bool) ow fA gA rfl rfl
  refine ⟨b, 0, rfl, Y.neJ 0 5 rfl rfl rfl (by simp [Ck.ob]), ⟨_, Y.cellO 0 rfl 1 rfl⟩, Y.freeO 0 rfl _, ?_⟩
  intro hv4
  have Y : Sy _ _ hv4 [_, _, _, _, _, _] := Y.stO 0 rfl 1 _
  refine ⟨b, 0, rfl, _, Y.cellO 0 rfl 3 rfl, b, 0, rfl, Y.neJ 0 5 rfl rfl rfl (by simp [Ck.ob]), ⟨_, Y.cellO 0 rfl 3 rfl⟩, Y.freeO 0 rfl _, ?_⟩
  intro hv5
  have Y : Sy _ _ hv5 [_, _, _, _, _, _] := Y.stO 0 rfl 3 _
  have Y : Sy _ _ hv5 [_, _, _, _, _, _, Ck.fv ⟨.func 212, #[], #[], []⟩ .popN] := Y.addN _ rfl rfl rfl
  have Y : Sy _ _ hv5 [_, _, _, _, _, _, _] := Y.pick [0, 1, 2, 3, 4, 6, 5] rfl
  have Y := Sy.packG ({ G with nodes := G.nodes ++ [true], ln := w64 (G.ln + 1) }) (B := [_, _]) Y
  refine did_step (r := ⟨.func 212, #[], #[], []⟩) Y hu (allc (Y.nO 2 [0, 1] rfl rfl) alln) ?_
  intro hv6 bs' Y
  refine ⟨rfl, ?_⟩
  have Y2 := Y.pick [0] rfl
  obtain ⟨nA', nL', nC', eA', eL', eC', uA', uL', uC', rs', mA', mL', mC', Y⟩ := Y.openG
  have Y : Sy _ _ hv6 [_, _, _, _, _, _] := Y
  have e1 := Y.lenS 1 rfl
  have e2 : nL' = G.nodes.length + 1 := by
    rw [e1]
    cases hm : G.marks <;> simp [Gr.did, hm]
  refine ⟨b, 0, rfl, _, _, _, Y.cellO 0 rfl 1 rfl, bs', _, Y2, ?_, rfl⟩
  rw [e2]; rfl
theorem g165 (G : Gr) (u v : Int) (hu : G.undo.length + 1 < 1000000000000) (hn : G.edges.length + 1 < 1000000000000) : GC 165 [.int .i64 u, .int .i64 v] G fun r G' => r = .int .i64 ((G.edges.length : Int) + 1) ∧ G' = G.addE u v := by
  intro h b bs hp
  have Y0 : Sy h bs h [_] := Sy.startM hp owns_gr
  obtain ⟨nA, nL, nC, eA, eL, eC, uA, uL, uC, rs, mA, mL, mC, Y⟩ := Y0.openG
  have Y : Sy h bs h [_, _, _, _, _] := Y
  obtain rfl := Y.lenS 2 rfl
  apply calls165
  unfold S165
  refine ⟨b, 0, rfl, _, _, _, Y.cellO 0 rfl 2 rfl, ?_⟩
  intro hv
  have Y : Sy _ _ hv [_, _, _, _, _, _] := Y.junk _
  refine ⟨_, Y.ownS 2 rfl, allc (Y.nJ 2 5 rfl rfl rfl) alln, appB hn (by decide), appM hn, ?_⟩
  intro sA sC hv3 ow fA gA gB
  have Y : Sy _ _ hv3 [_, _, _, _, _, _] := Y.appS 2 rfl ([(u, v, true)] : List (Int × Int × Bool)) ow fA gA rfl rfl
  refine ⟨b, 0, rfl, Y.neJ 0 5 rfl rfl rfl (by simp [Ck.ob]), ⟨_, Y.cellO 0 rfl 2 rfl⟩, Y.freeO 0 rfl _, ?_⟩
  intro hv4
  have Y : Sy _ _ hv4 [_, _, _, _, _, _] := Y.stO 0 rfl 2 _
  refine ⟨b, 0, rfl, _, Y.cellO 0 rfl 4 rfl, b, 0, rfl, Y.neJ 0 5 rfl rfl rfl (by simp [Ck.ob]), ⟨_, Y.cellO 0 rfl 4 rfl⟩, Y.freeO 0 rfl _, ?_⟩
  intro hv5
  have Y : Sy _ _ hv5 [_, _, _, _, _, _] := Y.stO 0 rfl 4 _
  have Y : Sy _ _ hv5 [_, _, _, _, _, _, Ck.fv ⟨.func 213, #[], #[], []⟩ .popE] := Y.addN _ rfl rfl rfl
  have Y : Sy _ _ hv5 [_, _, _, _, _, _, _] := Y.pick [0, 1, 2, 3, 4, 6, 5] rfl
  have Y := Sy.packG ({ G with edges := G.edges ++ [(u, v, true)], le := w64 (G.le + 1) }) (B := [_, _]) Y
  refine did_step (r := ⟨.func 213, #[], #[], []⟩) Y hu (allc (Y.nO 2 [0, 1] rfl rfl) alln) ?_
  intro hv6 bs' Y
  refine ⟨rfl, ?_⟩
  have Y2 := Y.pick [0] rfl
  obtain ⟨nA', nL', nC', eA', eL', eC', uA', uL', uC', rs', mA', mL', mC', Y⟩ := Y.openG
  have Y : Sy _ _ hv6 [_, _, _, _, _, _] := Y
  have e1 := Y.lenS 2 rfl
  have e2 : eL' = G.edges.length + 1 := by
    rw [e1]
    cases hm : G.marks <;> simp [Gr.did, hm]
  refine ⟨b, 0, rfl, _, _, _, Y.cellO 0 rfl 2 rfl, bs', _, Y2, ?_, rfl⟩
  rw [e2]; rfl
/-- Boxes become what a closure holds. -/
theorem fv1 {h0 h : Heap} {M : List Nat} {B : List Ck} {p : Nat} {v : Int} (Y : Sy h0 M h (Ck.ob p 3 [.int .i64 v] :: B)) {f : Fn} {u : Und} (m : IsBox h p v → Means h ⟨f, #[], #[.pointer (some ⟨p, 0, none⟩)], [p]⟩ u) :
    Sy h0 M h (Ck.fv ⟨f, #[], #[.pointer (some ⟨p, 0, none⟩)], [p]⟩ u :: B) :=
  Sy.pack (A := [_]) Y rfl rfl (m (Y.ok (k := 0) rfl))
theorem g171 (G : Gr) (v : Int) (hu : G.undo.length + 1 < 1000000000000) (h1 : 1 ≤ v) (h2 : v ≤ G.nodes.length) (h3 : G.nodes.length < 1000000000000) : GC 171 [.int .i64 v] G fun r G' => r = .tuple #[] ∧ G' = G.dropN v := by
  intro h b bs hp
  have Y0 : Sy h bs h [_] := Sy.startM hp owns_gr
  obtain ⟨nA, nL, nC, eA, eL, eC, uA, uL, uC, rs, mA, mL, mC, Y⟩ := Y0.openG
  have Y : Sy h bs h [_, _, _, _, _] := Y
  obtain rfl := Y.lenS 1 rfl
  have hw : IntKind.i64.wrap (v - 1) = v - 1 := wr (by omega) (by omega)
  apply calls171
  unfold S171
  intro hv
  have Y : Sy _ _ hv [_, _, _, _, _, _] := Y.newO _
  have q1 : 0 ≤ IntKind.i64.wrap (v - 1) := by rw [hw]; omega
  have q2 : IntKind.i64.wrap (v - 1) < (G.nodes.length : Int) := by rw [hw]; omega
  obtain ⟨nb, ha, _, x, hx⟩ := Y.atS 1 rfl q1 q2
  refine ⟨b, 0, rfl, _, _, _, Y.cellO 0 rfl 1 rfl, v, Y.cellO 5 rfl 0 rfl, nb, 0, ha, q1, q2, Y.cellEx 1 rfl ha (t := 0) (by omega) (by decide), Y.freeS 1 rfl ha _, ?_⟩
  intro hv2
  have Y : Sy _ _ hv2 [_, _, _, _, _, _] := Y.st1 1 rfl ha false (by omega) rfl
  refine ⟨b, 0, rfl, _, Y.cellO 0 rfl 3 rfl, b, 0, rfl, ⟨_, Y.cellO 0 rfl 3 rfl⟩, Y.freeO 0 rfl _, ?_⟩
  intro hv3
  have Y : Sy _ _ hv3 [_, _, _, _, _, _] := Y.stO 0 rfl 3 _
  have Y : Sy _ _ hv3 [_, _, _, _, _, _] := Y.pick [5, 0, 1, 2, 3, 4] rfl
  have Y := fv1 (f := .func 216) (u := .node v) (B := [_, _, _, _, _]) Y (fun q => ⟨_, rfl, q⟩)
  have Y : Sy _ _ hv3 [_, _, _, _, _, _] := Y.pick [1, 2, 3, 4, 5, 0] rfl
  have Y := Sy.packG ({ G with nodes := G.nodes.set (IntKind.i64.wrap (v - 1)).toNat false, ln := w64 (G.ln - 1) }) (B := [_]) Y
  refine did_step (r := ⟨.func 216, #[], #[.pointer (some ⟨h.size, 0, none⟩)], [h.size]⟩) Y hu alln ?_
  intro hv4 bs' Y
  refine ⟨rfl, bs', _, Y, rfl, ?_⟩
  simp only [Gr.dropN, Gr.setN, hw]; rfl
theorem g170 (G : Gr) (e : Int) (hu : G.undo.length + 1 < 1000000000000) (h1 : 1 ≤ e) (h2 : e ≤ G.edges.length) (h3 : G.edges.length < 1000000000000) : GC 170 [.int .i64 e] G fun r G' => r = .tuple #[] ∧ G' = G.dropE e := by
  intro h b bs hp
  have Y0 : Sy h bs h [_] := Sy.startM hp owns_gr
  obtain ⟨nA, nL, nC, eA, eL, eC, uA, uL, uC, rs, mA, mL, mC, Y⟩ := Y0.openG
  have Y : Sy h bs h [_, _, _, _, _] := Y
  obtain rfl := Y.lenS 2 rfl
  have hw : IntKind.i64.wrap (e - 1) = e - 1 := wr (by omega) (by omega)
  apply calls170
  unfold S170
  intro hv
  have Y : Sy _ _ hv [_, _, _, _, _, _] := Y.newO _
  have q1 : 0 ≤ IntKind.i64.wrap (e - 1) := by rw [hw]; omega
  have q2 : IntKind.i64.wrap (e - 1) < (G.edges.length : Int) := by rw [hw]; omega
  obtain ⟨nb, ha, _, x, hx⟩ := Y.atS 2 rfl q1 q2
  refine ⟨b, 0, rfl, _, _, _, Y.cellO 0 rfl 2 rfl, e, Y.cellO 5 rfl 0 rfl, nb, 0, ha, q1, q2, Y.cellEx 2 rfl ha (t := 2) (by omega) (by decide), Y.freeS 2 rfl ha _, ?_⟩
  intro hv2
  have Y : Sy _ _ hv2 [_, _, _, _, _, _] := Y.stS 2 rfl ha (t := 2) (x.1, x.2.1, false) hx (by decide) rfl
  refine ⟨b, 0, rfl, _, Y.cellO 0 rfl 4 rfl, b, 0, rfl, ⟨_, Y.cellO 0 rfl 4 rfl⟩, Y.freeO 0 rfl _, ?_⟩
  intro hv3
  have Y : Sy _ _ hv3 [_, _, _, _, _, _] := Y.stO 0 rfl 4 _
  have Y : Sy _ _ hv3 [_, _, _, _, _, _] := Y.pick [5, 0, 1, 2, 3, 4] rfl
  have Y := fv1 (f := .func 215) (u := .edge e) (B := [_, _, _, _, _]) Y (fun q => ⟨_, rfl, q⟩)
  have Y : Sy _ _ hv3 [_, _, _, _, _, _] := Y.pick [1, 2, 3, 4, 5, 0] rfl
  have Y := Sy.packG ({ G with edges := G.edges.set (IntKind.i64.wrap (e - 1)).toNat (x.1, x.2.1, false), le := w64 (G.le - 1) }) (B := [_]) Y
  refine did_step (r := ⟨.func 215, #[], #[.pointer (some ⟨h.size, 0, none⟩)], [h.size]⟩) Y hu alln ?_
  intro hv4 bs' Y
  refine ⟨rfl, bs', _, Y, rfl, ?_⟩
  rw [set_modify (f := fun x => (x.1, x.2.1, false)) hx]
  simp only [Gr.dropE, Gr.setE, hw]; rfl
end Go.Proofs.Ytmcloipjlihhlaa
