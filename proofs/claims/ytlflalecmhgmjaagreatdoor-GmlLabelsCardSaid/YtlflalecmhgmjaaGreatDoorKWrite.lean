/- The writer of GML: a node. Conditions: what the texts of numbers are. -/
import Derived.Test.YtlflalecmhgmjaaGreatDoorKNode
set_option linter.unusedVariables false
set_option linter.unusedSimpArgs false
namespace Go.Proofs.YtlflalecmhgmjaaGreatDoor.N
open Go.Proofs.YtlflalecmhgmjaaGreatDoor
open Go.X
open Go.Proofs
set_option maxRecDepth 100000
def TxAt (gl : GL) (tx : Nat -> List UInt8) (x : Nat) : Prop := (∀ h : Heap, Gl gl h -> CallsH Tryz.prog 55 #[.float .f64 x] h fun v h' => v = .string (G.mkB (tx x)) /\ Fr [] h h') /\ (tx x).length <= 100
def dV (gl : GL) (aE : Option Addr) (nE cE : Nat) (es : Es) (aL : Option Addr) (nL cL : Nat) (ls : List ByteArray) (aS : Option Addr) (nS cS : Nat) (ss : List (Nat × Nat)) (aW : Option Addr) (nW cW : Nat) (ws : List Nat) : List Ck :=
 [Ck.glob gl, Ck.vw eP aE nE cE es, Ck.vw eS aL nL cL ls, Ck.vw eFF aS nS cS ss, Ck.vw eF aW nW cW ws]
theorem kv_len (m : Nat) (k v : List UInt8) : (G.kv m k v ++ [10]).length = m + k.length + v.length + 2 := by simp [G.kv, G.ind]; omega
theorem opn_len (m : Nat) (k : List UInt8) : (G.opn m k ++ [10]).length = m + k.length + 3 := by unfold G.opn; rw [kv_len]; rfl
theorem cls_len (m : Nat) : (G.cls m ++ [10]).length = m + 2 := by simp [G.cls, G.ind]
theorem dec_len9 {n : Nat} (h : n <= 1000000) : (G.dec n).length <= 10 := G.dec_len 9 n (by omega)
theorem quo_len (l : List UInt8) : (G.quo l).length <= 6 * l.length + 2 := by
 have := enc_len l
 simp [G.quo]; omega
section
variable {gl : GL} {b c : Nat} {u : Bool} {A : Option Addr} {l : List UInt8} {h : Heap} {tx : Nat -> List UInt8} {aE aL aS aW : Option Addr} {nE cE nL cL nS cS nW cW n v : Nat} {es : Es} {ls : List ByteArray} {ss : List (Nat × Nat)} {ws : List Nat} {dir : Bool}
set_option maxHeartbeats 1000000 in
theorem ok53 (Hm : Hp h (wC b u A c 1 l ++ dV gl aE nE cE es aL nL cL ls aS nS cS ss aW nW cW ws)) (hv : v < n) (hn : n <= 1024) (hL : ls = [] \/ ls.length = n) (hS : ss = [] \/ ss.length = n) (hlp : ∀ s ∈ ls, s.size <= 256) (ht : ∀ p ∈ ss, TxAt gl tx p.1 /\ TxAt gl tx p.2) (hl : l.length <= 80000000) :
  CallsH Tryz.prog 53 #[.pointer (some ⟨b, 0, none⟩), .agg #[.int .i64 (n : Int), .slice aE nE cE, .bool dir, .slice aL nL cL, .slice aS nS cS, .slice aW nW cW], .int .i64 (v : Int)] h fun w h' => w = .tuple #[] /\
   (∃ A' c', Sq h (wC b u A c 1 l ++ dV gl aE nE cE es aL nL cL ls aS nS cS ss aW nW cW ws) h' (wC b true A' c' 1 (l ++ G.linesT (G.nodeL tx ls[v]? ss[v]? v)) ++ dV gl aE nE cE es aL nL cL ls aS nS cS ss aW nW cW ws)) /\ (l ++ G.linesT (G.nodeL tx ls[v]? ss[v]? v)).length <= l.length + 4000 := by
 apply calls53
 unfold S53
 obtain ⟨C, hC⟩ : ∃ C, C = wC b u A c 1 l ++ dV gl aE nE cE es aL nL cL ls aS nS cS ss aW nW cW ws := ⟨_, rfl⟩
 rw [<- hC]
 intro h1
 obtain ⟨B, hB⟩ : ∃ B, B = dV gl aE nE cE es aL nL cL ls aS nS cS ss aW nW cW ws ++ [Ck.junk h.size] := ⟨_, rfl⟩
 have Q1 : Sq h C h1 (wC b u A c 1 l ++ B) := by
  rw [hB, hC]
  exact ⟨(Sy.start Hm).junk _, fun x hx => .inl (by simpa [rds, Ck.junk] using hx)⟩
 have hd : Hd [h.size] B := by
  intro x hx
  simp at hx; subst hx
  exact ⟨5, by rw [hB]; rfl⟩
 have hd0 : Hd [] B := by intro x hx; simp at hx
 have gB : ∀ {D : List Ck} {h2 : Heap}, Sq h C h2 (D ++ B) -> Gl gl h2 := fun {D h2} Q => by
  have := Q.sy.ok (k := D.length + 0) (c := Ck.glob gl) (app_r (by rw [hB]; rfl))
  exact this
 have vL : ∀ {D : List Ck}, (D ++ B)[D.length + 2]? = some (Ck.vw eS aL nL cL ls) := fun {D} => app_r (by rw [hB]; rfl)
 have vS : ∀ {D : List Ck}, (D ++ B)[D.length + 3]? = some (Ck.vw eFF aS nS cS ss) := fun {D} => app_r (by rw [hB]; rfl)
 have lL := Q1.sy.lenV _ vL
 have lS := Q1.sy.lenV _ vS
 have dt := mkBl
 refine putO (k := ⟨#[110, 111, 100, 101]⟩) Q1 hd (by omega) (by omega) (by decide) fun A2 c2 h2 Q2 => ⟨rfl, ?_⟩
 have e2 : (l ++ (G.opn (2 * 1) G.kNode ++ [10])).length = l.length + 9 := by rw [List.length_append, opn_len]; rfl
 change Sq h C h2 (wC b true A2 c2 2 (l ++ (G.opn (2 * 1) G.kNode ++ [10])) ++ B) at Q2
 generalize hl2 : l ++ (G.opn (2 * 1) G.kNode ++ [10]) = l2 at *
 refine callX_ofR [] (ok54 (gB Q2) (by omega)) (by simp) (fun _ _ r => r.2) ?_
 rintro w h3 ⟨rfl, f3⟩
 have Q3 := Q2.gr f3
 have d9 := dec_len9 (n := v) (by omega)
 refine ⟨_, rfl, put2 (k := ⟨#[105, 100]⟩) Q3 hd (by omega) (by omega) ⟨by decide, by rw [mkB_sz]; omega⟩ fun A4 c4 h4 Q4 => ⟨rfl, ?_⟩⟩
 rw [dt] at Q4
 change Sq h C h4 (wC b true A4 c4 2 (l2 ++ (G.kv (2 * 2) G.kId (G.dec v) ++ [10])) ++ B) at Q4
 have e4 : (l2 ++ (G.kv (2 * 2) G.kId (G.dec v) ++ [10])).length <= l.length + 50 := by rw [List.length_append, kv_len, e2]; show l.length + 9 + (2 * 2 + 2 + _ + 2) <= _; omega
 generalize hl4 : l2 ++ (G.kv (2 * 2) G.kId (G.dec v) ++ [10]) = l4 at *
 obtain ⟨l5, hl5⟩ : ∃ l5, l5 = l4 ++ G.linesT (match ls[v]? with | some x => [G.kv 4 G.kLabel (G.quo x.data.toList)] | none => []) := ⟨_, rfl⟩
 have e5 : l5.length <= l.length + 2000 := by
  rw [hl5, List.length_append]
  cases q : ls[v]? with
  | none => simp [G.linesT]; omega
  | some x =>
   have := quo_len x.data.toList
   have hx := hlp x (List.mem_of_getElem? q)
   have hx2 : x.data.toList.length = x.size := rfl
   simp only [G.linesT, List.flatMap_cons, List.flatMap_nil, List.append_nil]
   rw [kv_len]
   have : G.kLabel.length = 5 := rfl
   omega
 refine ⟨fun lz h' => lz = [] /\ ∃ A' c', Sq h C h' (wC b true A' c' 2 l5 ++ B), cnd_dec (fun q => ?_) fun q => ⟨rfl, A4, c4, ?_⟩, ?_⟩
 ·have hlen : v < ls.length := by rcases hL with rfl | e <;> simp at * <;> omega
  have hx : ls[v]? = some ls[v] := List.getElem?_eq_getElem hlen
  generalize ls[v] = x at hx
  have hxs := hlp x (List.mem_of_getElem? hx)
  obtain ⟨p, o, ea, _⟩ := Q4.sy.atV _ vL (i := (v : Int)) (by omega) (by omega)
  refine ⟨p, o, ea, by omega, by omega, x, Q4.sy.cellV _ vL ea (i := v) (t := 0) hx rfl, ?_⟩
  refine callX_ofR [] (ok104 (gB Q4) (by omega)) (by simp) (fun _ _ r => r.2) ?_
  rintro w h6 ⟨rfl, f6⟩
  have ql := quo_len x.data.toList
  have hx2 : x.data.toList.length = x.size := rfl
  refine ⟨_, rfl, put2 (k := ⟨#[108, 97, 98, 101, 108]⟩) (Q4.gr f6) hd (by omega) (by omega) ⟨by decide, by rw [mkB_sz]; omega⟩ fun A7 c7 h7 Q7 => ⟨rfl, rfl, A7, c7, ?_⟩⟩
  rw [dt] at Q7
  change Sq h C h7 (wC b true A7 c7 2 (l4 ++ (G.kv 4 G.kLabel (G.quo x.data.toList) ++ [10])) ++ B) at Q7
  rw [hl5, hx]
  simpa [G.linesT] using Q7
 ·have : ls[v]? = none := by rw [List.getElem?_eq_none]; omega
  rw [hl5, this]
  simpa [G.linesT] using Q4
 rintro h9 ⟨_, A9, c9, Q9⟩
 obtain ⟨l6, hl6⟩ : ∃ l6, l6 = l5 ++ G.linesT (match ss[v]? with | some p => G.spotL tx p | none => []) := ⟨_, rfl⟩
 have txl : ∀ p, ss[v]? = some p -> (tx p.1).length <= 100 /\ (tx p.2).length <= 100 := fun p hp => ⟨(ht p (List.mem_of_getElem? hp)).1.2, (ht p (List.mem_of_getElem? hp)).2.2⟩
 have e6 : l6.length <= l.length + 3000 := by
  rw [hl6, List.length_append]
  cases q : ss[v]? with
  | none => simp [G.linesT]; omega
  | some p =>
   have := txl p q
   have eq : G.linesT (G.spotL tx p) = (G.opn 4 G.kGraphics ++ [10]) ++ ((G.kv 6 G.kX (tx p.1) ++ [10]) ++ ((G.kv 6 G.kY (tx p.2) ++ [10]) ++ (G.cls 4 ++ [10]))) := by simp [G.linesT, G.spotL]
   simp only [eq]
   rw [@List.length_append _ (G.opn 4 G.kGraphics ++ [10]), @List.length_append _ (G.kv 6 G.kX (tx p.1) ++ [10]), @List.length_append _ (G.kv 6 G.kY (tx p.2) ++ [10]), opn_len, kv_len, kv_len, cls_len]
   have h1 : G.kGraphics.length = 8 := rfl
   have h2 : G.kX.length = 1 := rfl
   have h3 : G.kY.length = 1 := rfl
   omega
 refine ⟨fun lz h' => lz = [] /\ ∃ A' c', Sq h C h' (wC b true A' c' 2 l6 ++ B), cnd_dec (fun q => ?_) fun q => ⟨rfl, A9, c9, ?_⟩, ?_⟩
 ·have hlen : v < ss.length := by rcases hS with rfl | e <;> simp at * <;> omega
  have hx : ss[v]? = some ss[v] := List.getElem?_eq_getElem hlen
  generalize ss[v] = p at hx
  obtain ⟨⟨tp1, tl1⟩, tp2, tl2⟩ := ht p (List.mem_of_getElem? hx)
  refine putO (k := ⟨#[103, 114, 97, 112, 104, 105, 99, 115]⟩) Q9 hd (by omega) (by omega) (by decide) fun A10 c10 h10 Q10 => ⟨rfl, ?_⟩
  change Sq h C h10 (wC b true A10 c10 3 (l5 ++ (G.opn 4 G.kGraphics ++ [10])) ++ B) at Q10
  have e10 : (l5 ++ (G.opn 4 G.kGraphics ++ [10])).length = l5.length + 15 := by rw [List.length_append, opn_len]; rfl
  obtain ⟨y, o, ea, _⟩ := Q10.sy.atV _ vS (i := (v : Int)) (by omega) (by omega)
  refine ⟨y, o, ea, by omega, by omega, p.1, Q10.sy.cellV _ vS ea (i := v) (t := 0) hx rfl, ?_⟩
  refine callX_ofR [] (tp1 _ (gB Q10)) (by simp) (fun _ _ r => r.2) ?_
  rintro w h11 ⟨rfl, f11⟩
  refine ⟨_, rfl, put2 (k := ⟨#[120]⟩) (Q10.gr f11) hd (by omega) (by omega) ⟨by decide, by rw [mkB_sz]; omega⟩ fun A13 c13 h13 Q13 => ⟨rfl, ?_⟩⟩
  rw [dt] at Q13
  change Sq h C h13 (wC b true A13 c13 3 (l5 ++ (G.opn 4 G.kGraphics ++ [10]) ++ (G.kv 6 G.kX (tx p.1) ++ [10])) ++ B) at Q13
  have e13 : (l5 ++ (G.opn 4 G.kGraphics ++ [10]) ++ (G.kv 6 G.kX (tx p.1) ++ [10])).length <= l5.length + 200 := by rw [List.length_append, e10, kv_len]; show _ + (6 + 1 + _ + 2) <= _; omega
  refine ⟨y, o, ea, by omega, by omega, p.2, Q13.sy.cellV _ vS ea (i := v) (t := 1) hx rfl, ?_⟩
  refine callX_ofR [] (tp2 _ (gB Q13)) (by simp) (fun _ _ r => r.2) ?_
  rintro w h14 ⟨rfl, f14⟩
  refine ⟨_, rfl, put2 (k := ⟨#[121]⟩) (Q13.gr f14) hd (by omega) (by omega) ⟨by decide, by rw [mkB_sz]; omega⟩ fun A16 c16 h16 Q16 => ⟨rfl, ?_⟩⟩
  rw [dt] at Q16
  change Sq h C h16 (wC b true A16 c16 3 (l5 ++ (G.opn 4 G.kGraphics ++ [10]) ++ (G.kv 6 G.kX (tx p.1) ++ [10]) ++ (G.kv 6 G.kY (tx p.2) ++ [10])) ++ B) at Q16
  have e16 : (l5 ++ (G.opn 4 G.kGraphics ++ [10]) ++ (G.kv 6 G.kX (tx p.1) ++ [10]) ++ (G.kv 6 G.kY (tx p.2) ++ [10])).length <= l5.length + 400 := by rw [List.length_append, kv_len]; show _ + (6 + 1 + _ + 2) <= _; omega
  refine putC (d := 2) Q16 hd (by omega) (by omega) fun A17 c17 h17 Q17 => ⟨rfl, rfl, A17, c17, ?_⟩
  rw [hl6, hx]
  simpa [G.linesT, G.spotL] using Q17
 ·have : ss[v]? = none := by rw [List.getElem?_eq_none]; omega
  rw [hl6, this]
  simpa [G.linesT] using Q9
 rintro h18 ⟨_, A18, c18, Q18⟩
 refine putC (d := 1) Q18 hd0 (by omega) (by omega) fun A19 c19 h19 Q19 => ⟨rfl, rfl, ?_⟩
 have ee : l6 ++ (G.cls (2 * 1) ++ [10]) = l ++ G.linesT (G.nodeL tx ls[v]? ss[v]? v) := by
  rw [hl6, hl5, <- hl4, <- hl2]
  unfold G.nodeL
  have e0 : G.linesT [G.cls 2] = G.cls 2 ++ [10] := by simp [G.linesT]
  rw [G.linesT_cons, G.linesT_cons, G.linesT_app, G.linesT_app, e0]
  simp only [List.append_assoc, List.cons_append, List.nil_append]
  rfl
 have e19 : (l6 ++ (G.cls (2 * 1) ++ [10])).length <= l.length + 4000 := by rw [List.length_append, cls_len]; omega
 rw [ee] at e19
 refine ⟨⟨A19, c19, ?_⟩, e19⟩
 rw [ee, hB, <- List.append_assoc] at Q19
 have := Sq.del (B := []) (by rw [List.append_nil]; exact Q19)
 rw [List.append_nil] at this
 exact this
end
end Go.Proofs.YtlflalecmhgmjaaGreatDoor.N
namespace Go.Proofs.YtlflalecmhgmjaaGreatDoor.N
open Go.Proofs.YtlflalecmhgmjaaGreatDoor
open Go.X
open Go.Proofs
set_option maxRecDepth 100000
def toDc (n : Int) (dir : Bool) (es : Es) (ls : List ByteArray) (ss : List (Nat × Nat)) (ws : List Nat) : G.Dc := ⟨n.toNat, dir, es.map fun e => (e.1.toNat, e.2.toNat), ls, ss, ws⟩
def wrV (tx : Nat -> List UInt8) (n : Int) (dir : Bool) (es : Es) (ls : List ByteArray) (ss : List (Nat × Nat)) (ws : List Nat) : List UInt8 × Int :=
 if docB n es ls ss ws = false then ([], 1) else if 262144 < (G.wr tx (toDc n dir es ls ss ws)).length then ([], 23) else (G.wr tx (toDc n dir es ls ss ws), 0)
def dB (gl : GL) (aE : Option Addr) (nE cE : Nat) (es : Es) (aL : Option Addr) (nL cL : Nat) (ls : List ByteArray) (aS : Option Addr) (nS cS : Nat) (ss : List (Nat × Nat)) (aW : Option Addr) (nW cW : Nat) (ws : List Nat) (k : Nat) : List Ck :=
 dV gl aE nE cE es aL nL cL ls aS nS cS ss aW nW cW ws ++ [Ck.junk k]
theorem edgesL_drop (tx : Nat -> List UInt8) {es : List (Nat × Nat)} {ws : List Nat} {k : Nat} {e : Nat × Nat} (h : es[k]? = some e) : G.edgesL tx (es.drop k) (ws.drop k) = G.edgeL tx ws[k]? e ++ G.edgesL tx (es.drop (k + 1)) (ws.drop (k + 1)) := by
 have hk := (List.getElem?_eq_some_iff.1 h).1
 rw [List.drop_eq_getElem_cons hk, (List.getElem?_eq_some_iff.1 h).2, G.edgesL, List.head?_drop, List.tail_drop]
section
variable {gl : GL} {h : Heap} {tx : Nat -> List UInt8} {aE aL aS aW : Option Addr} {nE cE nL cL nS cS nW cW : Nat} {n : Int} {es : Es} {ls : List ByteArray} {ss : List (Nat × Nat)} {ws : List Nat} {dir : Bool}
set_option maxHeartbeats 4000000 in
theorem ok22 (Hm : Hp h (dV gl aE nE cE es aL nL cL ls aS nS cS ss aW nW cW ws)) (hsz : ∀ s ∈ ls, s.size <= 9223372036854775807) (hll : ls.length <= 9223372036854775807) (ht : ∀ p ∈ ss, TxAt gl tx p.1 /\ TxAt gl tx p.2) (htw : ∀ x ∈ ws, TxAt gl tx x) :
  CallsH Tryz.prog 22 #[.agg #[.int .i64 n, .slice aE nE cE, .bool dir, .slice aL nL cL, .slice aS nS cS, .slice aW nW cW]] h fun w h' => w = .tuple #[.string (G.mkB (wrV tx n dir es ls ss ws).1), .int .i64 (wrV tx n dir es ls ss ws).2] /\ Fr [] h h' := by
 apply calls22
 unfold S22
 intro h1
 have Q1 : Sq h (dV gl aE nE cE es aL nL cL ls aS nS cS ss aW nW cW ws) h1 (dB gl aE nE cE es aL nL cL ls aS nS cS ss aW nW cW ws h.size) := ⟨(Sy.start Hm).junk _, fun x hx => .inl (by simpa [rds, dB, Ck.junk] using hx)⟩
 refine callX_ofR (R := fun v h' => v = .bool (docB n es ls ss ws) /\ Fr [] h1 h') [] ?_ (by simp) (fun _ _ r => r.2) ?_
 ·refine (okDoc (n := n) (es := es) (dr := dir) (ls := ls) (ss := ss) (ws := ws) (R := fun r => r = docB n es ls ss ws) hsz hll rfl h1 aE nE cE aL nL cL aS nS cS aW nW cW (Q1.pick [1, 2, 3, 4] rfl).hp).mono ?_
  rintro v h' ⟨r, Y, rfl, rfl⟩
  exact ⟨rfl, Y.fr⟩
 rintro v h2 ⟨rfl, f2⟩
 have Q2 := Q1.gr f2
 refine ⟨_, rfl, cnd_not (fun q => ⟨?_, Q2.fr⟩) fun q => ?_⟩
 ·unfold wrV; rw [if_pos q]; rfl
 have hm := q
 unfold docB at hm
 simp only [Bool.and_eq_true] at hm
 obtain ⟨m1, m2, m3, m4, m5⟩ := hm
 obtain ⟨g0, g1, gm, ge⟩ := mayN m1
 obtain ⟨N, rfl⟩ : ∃ N : Nat, n = (N : Int) := ⟨n.toNat, by omega⟩
 have hN : N <= 1024 := by omega
 have non : ∀ {a b : Nat}, noneB (a : Int) (b : Int) = true -> a = 0 \/ a = b := fun {a b} h => by unfold noneB at h; simp at h; omega
 have hL : ls = [] \/ ls.length = N := (non m2).imp List.eq_nil_of_length_eq_zero id
 have hS : ss = [] \/ ss.length = N := (non m3).imp List.eq_nil_of_length_eq_zero id
 have hW : ws = [] \/ ws.length = es.length := (non m4).imp List.eq_nil_of_length_eq_zero id
 have hlp : ∀ s ∈ ls, s.size <= 256 := fun s hs => by
  have := List.all_eq_true.1 m5 s hs
  unfold labB at this
  simp only [Bool.and_eq_true, decide_eq_true_eq] at this
  exact this.2
 intro h3
 obtain ⟨D, hD⟩ : ∃ D, D = toDc (N : Int) dir es ls ss ws := ⟨_, rfl⟩
 have dN : D.n = N := by rw [hD]; exact Int.toNat_natCast N
 have dL : D.labels = ls := by rw [hD]; rfl
 have dS : D.spots = ss := by rw [hD]; rfl
 have Q3 : Sq h (dV gl aE nE cE es aL nL cL ls aS nS cS ss aW nW cW ws) h3 (wC h2.size false none 0 0 [] ++ dB gl aE nE cE es aL nL cL ls aS nS cS ss aW nW cW ws h.size) := by
  have Y := ((Q2.sy.newO (ty := 83) [.pointer none, .slice none 0 0, .int .i64 0]).nilS (eK .u8) 5).pick [6, 7, 0, 1, 2, 3, 4, 5] rfl
  exact ⟨Y, fun x hx => Q2.ri x (by simpa [rds, wC, dB, dV, Ck.ob, Ck.sl, Ck.junk, pk] using hx)⟩
 have hd : Hd [h.size] (dB gl aE nE cE es aL nL cL ls aS nS cS ss aW nW cW ws h.size) := by
  intro x hx
  simp at hx; subst hx
  exact ⟨5, rfl⟩
 clear Q1 Q2
 refine putO (k := ⟨#[103, 114, 97, 112, 104]⟩) Q3 hd (by omega) (by decide) (by decide) fun A4 c4 h4 Q4 => ⟨rfl, ?_⟩
 change Sq h _ h4 (wC h2.size true A4 c4 1 (G.opn 0 G.kGraph ++ [10]) ++ dB gl aE nE cE es aL nL cL ls aS nS cS ss aW nW cW ws h.size) at Q4
 generalize h2.size = b at *
 refine ⟨fun lz h' => lz = [.string (G.mkB (if dir = true then [49] else [48]))] /\ h' = h4, cnd_b (fun e => ⟨by rw [e]; rfl, rfl⟩) fun e => ⟨by rw [e]; rfl, rfl⟩, ?_⟩
 rintro dd h5 ⟨hdd, rfl⟩
 obtain rfl : dd = G.mkB (if dir = true then [49] else [48]) := by simpa using hdd
 refine put2 (k := ⟨#[100, 105, 114, 101, 99, 116, 101, 100]⟩) Q4 hd (by omega) (by decide) ⟨by decide, by rw [mkB_sz]; split <;> simp⟩ fun A7 c7 h7 Q7 => ⟨rfl, ?_⟩
 rw [mkBl] at Q7
 obtain ⟨base, hb⟩ : ∃ base, base = (G.opn 0 G.kGraph ++ [10]) ++ (G.kv 2 G.kDirected (if dir = true then [49] else [48]) ++ [10]) := ⟨_, rfl⟩
 have Q7 : Sq h (dV gl aE nE cE es aL nL cL ls aS nS cS ss aW nW cW ws) h7 (wC b true A7 c7 1 base ++ dB gl aE nE cE es aL nL cL ls aS nS cS ss aW nW cW ws h.size) := by rw [hb]; exact Q7
 have bl : base.length <= 100 := by
  rw [hb, List.length_append, opn_len, kv_len]
  have : (if dir = true then [(49 : UInt8)] else [48]).length = 1 := by split <;> rfl
  rw [this]; decide
 refine ⟨fun lz h' => ∃ (k : Nat) (A' : Option Addr) (c' : Nat) (l : List UInt8), lz = [.int .i64 (k : Int)] /\ k <= N /\ Sq h (dV gl aE nE cE es aL nL cL ls aS nS cS ss aW nW cW ws) h' (wC b true A' c' 1 l ++ dB gl aE nE cE es aL nL cL ls aS nS cS ss aW nW cW ws h.size) /\
   l ++ G.linesT (G.nodesL tx D (N - k) k) = base ++ G.linesT (G.nodesL tx D N 0) /\ l.length <= 100 + 4000 * k,
  fun lz _ => match lz with | [.int _ i] => ((N : Int) - i).toNat | _ => 0, ⟨0, A7, c7, base, rfl, by omega, Q7, rfl, by omega⟩, ?_⟩
 rintro x h8 ⟨k, A8, c8, l8, hx, hk, Q8, e8, b8⟩
 obtain rfl : x = (k : Int) := by simpa using hx
 refine cnd_dec (fun hlt => ?_) fun hlt => ?_
 ·have Q8' : Sq h (dV gl aE nE cE es aL nL cL ls aS nS cS ss aW nW cW ws) h8 ((wC b true A8 c8 1 l8 ++ dV gl aE nE cE es aL nL cL ls aS nS cS ss aW nW cW ws) ++ [Ck.junk h.size]) := Q8
  have hd1 : Hd [h.size] [Ck.junk h.size] := by
   intro x hx
   simp at hx; subst hx
   exact ⟨0, rfl⟩
  refine callX_ofR (owns (wC b true A8 c8 1 l8 ++ dV gl aE nE cE es aL nL cL ls aS nS cS ss aW nW cW ws)) (ok53 (tx := tx) (n := N) (v := k) (dir := dir) (Q8'.pick [0, 1, 2, 3, 4, 5, 6] rfl).hp (by omega) hN hL hS hlp ht (by omega)) (fun x hx => (hd1.apart Q8' x hx).2) (fun _ _ r => r.2.1.choose_spec.choose_spec.fr) ?_
  rintro v h9 ⟨rfl, ⟨A9, c9, q9⟩, b9⟩
  have Q9 := Sq.call Q8' q9
  have hw : IntKind.i64.wrap ((k : Int) + 1) = ((k + 1 : Nat) : Int) := by rw [wr (by omega) (by omega)]; omega
  rw [hw]
  refine ⟨rfl, ⟨k + 1, A9, c9, _, rfl, by omega, Q9, ?_, by omega⟩, by dsimp only; omega⟩
  rw [<- e8, show N - k = (N - (k + 1)) + 1 by omega, G.nodesL, dL, dS, G.linesT_app, List.append_assoc]
 have hkN : k = N := by omega
 subst hkN
 rw [Nat.sub_self] at e8
 have e8 : l8 = base ++ G.linesT (G.nodesL tx D k 0) := by simpa [G.nodesL, G.linesT] using e8
 obtain ⟨base2, hb2⟩ : ∃ base2, base2 = l8 := ⟨_, rfl⟩
 have lE := Q8.sy.lenV 3 rfl
 have lW := Q8.sy.lenV 6 rfl
 have dE : D.edges = es.map fun e => (e.1.toNat, e.2.toNat) := by rw [hD]; rfl
 have dW : D.weights = ws := by rw [hD]; rfl
 refine ⟨fun lz h' => ∃ (j : Nat) (A' : Option Addr) (c' : Nat) (l : List UInt8), lz = [.int .i64 (j : Int)] /\ j <= es.length /\ Sq h (dV gl aE nE cE es aL nL cL ls aS nS cS ss aW nW cW ws) h' (wC b true A' c' 1 l ++ dB gl aE nE cE es aL nL cL ls aS nS cS ss aW nW cW ws h.size) /\
   l ++ G.linesT (G.edgesL tx (D.edges.drop j) (ws.drop j)) = base2 ++ G.linesT (G.edgesL tx D.edges ws) /\ l.length <= 5000000 + 1000 * j,
  fun lz _ => match lz with | [.int _ i] => ((es.length : Int) - i).toNat | _ => 0, ⟨0, A8, c8, l8, rfl, by omega, Q8, by rw [hb2]; rfl, by omega⟩, ?_⟩
 rintro x h10 ⟨j, A10, c10, l10, hx, hj, Q10, e10, b10⟩
 obtain rfl : x = (j : Int) := by simpa using hx
 refine cnd_dec (fun hlt => ?_) fun hlt => ?_
 ·have hjl : j < es.length := by omega
  have hx : es[j]? = some es[j] := List.getElem?_eq_getElem hjl
  generalize es[j] = e at hx
  obtain ⟨⟨z1, z2⟩, z3, z4⟩ := ge j e hx
  obtain ⟨p, o, ea, _⟩ := Q10.sy.atV 3 rfl (i := (j : Int)) (by omega) (by omega)
  refine ⟨p, o, ea, by omega, by omega, e.1, Q10.sy.cellV 3 rfl ea (i := j) (t := 0) hx rfl, e.2, Q10.sy.cellV 3 rfl ea (i := j) (t := 1) hx rfl, ?_⟩
  intro h11 h12
  have Q12 : Sq h (dV gl aE nE cE es aL nL cL ls aS nS cS ss aW nW cW ws) h12 (wC b true A10 c10 1 l10 ++ (dB gl aE nE cE es aL nL cL ls aS nS cS ss aW nW cW ws h.size ++ [Ck.junk h10.size])) := by
   have Y := (((Q10.sy.newO (ty := 48) [.int .i64 0, .int .i64 0]).stO 8 rfl 0 (.int .i64 e.1)).stO 8 rfl 1 (.int .i64 e.2)).turn 8 rfl To.sljunk
   exact ⟨Y, fun x hx => Q10.ri x (by simpa [rds, wC, dB, dV, Ck.ob, Ck.sl, Ck.junk] using hx)⟩
  have hd2 : Hd [h10.size, h.size] (dB gl aE nE cE es aL nL cL ls aS nS cS ss aW nW cW ws h.size ++ [Ck.junk h10.size]) := by
   intro x hx
   simp at hx
   rcases hx with rfl | rfl
   ·exact ⟨6, rfl⟩
   ·exact ⟨5, rfl⟩
  have hd3 : Hd [h.size] (dB gl aE nE cE es aL nL cL ls aS nS cS ss aW nW cW ws h.size ++ [Ck.junk h10.size]) := fun x hx => hd2 x (by simp at hx; simp [hx])
  clear_value h12
  refine putO (k := ⟨#[101, 100, 103, 101]⟩) Q12 hd2 (by omega) (by omega) (by decide) fun A13 c13 h13 Q13 => ⟨rfl, ?_⟩
  change Sq h _ h13 (wC b true A13 c13 2 (l10 ++ (G.opn 2 G.kEdge ++ [10])) ++ _) at Q13
  have e13 : (l10 ++ (G.opn 2 G.kEdge ++ [10])).length = l10.length + 9 := by rw [List.length_append, opn_len]; rfl
  have gB : ∀ {A : Option Addr} {c d : Nat} {l : List UInt8} {h' : Heap}, Sq h (dV gl aE nE cE es aL nL cL ls aS nS cS ss aW nW cW ws) h' (wC b true A c d l ++ (dB gl aE nE cE es aL nL cL ls aS nS cS ss aW nW cW ws h.size ++ [Ck.junk h10.size])) -> Gl gl h' := fun {A c d l h'} Q => Q.sy.ok (k := 2) (c := Ck.glob gl) rfl
  obtain ⟨u1, hu1⟩ : ∃ u : Nat, e.1 = (u : Int) := ⟨e.1.toNat, by omega⟩
  obtain ⟨u2, hu2⟩ : ∃ u : Nat, e.2 = (u : Int) := ⟨e.2.toNat, by omega⟩
  rw [hu1, hu2]
  refine callX_ofR [] (ok54 (n := u1) (gB Q13) (by omega)) (by simp) (fun _ _ r => r.2) ?_
  rintro w h14 ⟨rfl, f14⟩
  have d1 := dec_len9 (n := u1) (by omega)
  have d2 := dec_len9 (n := u2) (by omega)
  refine ⟨_, rfl, put2 (k := ⟨#[115, 111, 117, 114, 99, 101]⟩) (Q13.gr f14) hd2 (by omega) (by omega) ⟨by decide, by rw [mkB_sz]; omega⟩ fun A16 c16 h16 Q16 => ⟨rfl, ?_⟩⟩
  rw [mkBl] at Q16
  change Sq h _ h16 (wC b true A16 c16 2 (l10 ++ (G.opn 2 G.kEdge ++ [10]) ++ (G.kv 4 G.kSource (G.dec u1) ++ [10])) ++ _) at Q16
  have e16 : (l10 ++ (G.opn 2 G.kEdge ++ [10]) ++ (G.kv 4 G.kSource (G.dec u1) ++ [10])).length <= l10.length + 50 := by rw [List.length_append, e13, kv_len]; show _ + (4 + 6 + _ + 2) <= _; omega
  refine callX_ofR [] (ok54 (n := u2) (gB Q16) (by omega)) (by simp) (fun _ _ r => r.2) ?_
  rintro w h17 ⟨rfl, f17⟩
  refine ⟨_, rfl, put2 (k := ⟨#[116, 97, 114, 103, 101, 116]⟩) (Q16.gr f17) hd2 (by omega) (by omega) ⟨by decide, by rw [mkB_sz]; omega⟩ fun A19 c19 h19 Q19 => ⟨rfl, ?_⟩⟩
  rw [mkBl] at Q19
  change Sq h _ h19 (wC b true A19 c19 2 (l10 ++ (G.opn 2 G.kEdge ++ [10]) ++ (G.kv 4 G.kSource (G.dec u1) ++ [10]) ++ (G.kv 4 G.kTarget (G.dec u2) ++ [10])) ++ _) at Q19
  have e19 : (l10 ++ (G.opn 2 G.kEdge ++ [10]) ++ (G.kv 4 G.kSource (G.dec u1) ++ [10]) ++ (G.kv 4 G.kTarget (G.dec u2) ++ [10])).length <= l10.length + 100 := by rw [List.length_append, kv_len]; show _ + (4 + 6 + _ + 2) <= _; omega
  generalize hl19 : l10 ++ (G.opn 2 G.kEdge ++ [10]) ++ (G.kv 4 G.kSource (G.dec u1) ++ [10]) ++ (G.kv 4 G.kTarget (G.dec u2) ++ [10]) = l19 at *
  obtain ⟨l20, hl20⟩ : ∃ l20, l20 = l19 ++ G.linesT (match ws[j]? with | some x => [G.kv 4 G.kWeight (tx x)] | none => []) := ⟨_, rfl⟩
  have e20 : l20.length <= l10.length + 400 := by
   rw [hl20, List.length_append]
   cases q : ws[j]? with
   | none => simp [G.linesT]; omega
   | some x =>
    have := (htw x (List.mem_of_getElem? q)).2
    simp only [G.linesT, List.flatMap_cons, List.flatMap_nil, List.append_nil]
    rw [kv_len]
    have : G.kWeight.length = 6 := rfl
    omega
  refine ⟨fun lz h' => lz = [] /\ ∃ A' c', Sq h (dV gl aE nE cE es aL nL cL ls aS nS cS ss aW nW cW ws) h' (wC b true A' c' 2 l20 ++ (dB gl aE nE cE es aL nL cL ls aS nS cS ss aW nW cW ws h.size ++ [Ck.junk h10.size])), cnd_dec (fun q => ?_) fun q => ⟨rfl, A19, c19, ?_⟩, ?_⟩
  ·have hlen : j < ws.length := by rcases hW with rfl | e <;> simp at * <;> omega
   have hxw : ws[j]? = some ws[j] := List.getElem?_eq_getElem hlen
   generalize ws[j] = x at hxw
   obtain ⟨t1, t2⟩ := htw x (List.mem_of_getElem? hxw)
   obtain ⟨p, o, ea, _⟩ := Q19.sy.atV 6 rfl (i := (j : Int)) (by omega) (by omega)
   refine ⟨p, o, ea, by omega, by omega, x, Q19.sy.cellV 6 rfl ea (i := j) (t := 0) hxw rfl, ?_⟩
   refine callX_ofR [] (t1 _ (gB Q19)) (by simp) (fun _ _ r => r.2) ?_
   rintro w h20 ⟨rfl, f20⟩
   refine ⟨_, rfl, put2 (k := ⟨#[119, 101, 105, 103, 104, 116]⟩) (Q19.gr f20) hd2 (by omega) (by omega) ⟨by decide, by rw [mkB_sz]; omega⟩ fun A22 c22 h22 Q22 => ⟨rfl, rfl, A22, c22, ?_⟩⟩
   rw [mkBl] at Q22
   change Sq h _ h22 (wC b true A22 c22 2 (l19 ++ (G.kv 4 G.kWeight (tx x) ++ [10])) ++ _) at Q22
   have e0 : l20 = l19 ++ (G.kv 4 G.kWeight (tx x) ++ [10]) := by rw [hl20, hxw]; simp [G.linesT]
   rw [e0]; exact Q22
  ·have : ws[j]? = none := by rw [List.getElem?_eq_none]; omega
   have e0 : l20 = l19 := by rw [hl20, this]; simp [G.linesT]
   rw [e0]; exact Q19
  rintro h23 ⟨_, A23, c23, Q23⟩
  refine putC (d := 1) Q23 hd3 (by omega) (by omega) fun A24 c24 h24 Q24 => ⟨rfl, ?_⟩
  have hw : IntKind.i64.wrap ((j : Int) + 1) = ((j + 1 : Nat) : Int) := by rw [wr (by omega) (by omega)]; omega
  rw [hw]
  have Q25 : Sq h (dV gl aE nE cE es aL nL cL ls aS nS cS ss aW nW cW ws) h24 (wC b true A24 c24 1 (l20 ++ (G.cls 2 ++ [10])) ++ dB gl aE nE cE es aL nL cL ls aS nS cS ss aW nW cW ws h.size) := Q24.pick [0, 1, 2, 3, 4, 5, 6, 7] rfl
  refine ⟨⟨j + 1, A24, c24, _, rfl, by omega, Q25, ?_, by rw [List.length_append, cls_len]; omega⟩, by dsimp only; omega⟩
  have hxD : D.edges[j]? = some (u1, u2) := by
   rw [dE, List.getElem?_map, hx]
   simp [hu1, hu2]
  rw [edgesL_drop tx hxD] at e10
  rw [<- e10, hl20, <- hl19]
  have e0 : G.linesT [G.cls 2] = G.cls 2 ++ [10] := by simp [G.linesT]
  unfold G.edgeL
  rw [G.linesT_app, G.linesT_cons, G.linesT_cons, G.linesT_cons, G.linesT_app, e0]
  simp only [List.append_assoc, List.cons_append, List.nil_append]
  rfl
 have hjE : j = es.length := by omega
 have e10 : l10 = base2 ++ G.linesT (G.edgesL tx D.edges ws) := by
  have h1 : D.edges.drop j = [] := List.drop_eq_nil_of_le (by rw [dE, List.length_map]; omega)
  rw [h1] at e10
  simpa [G.edgesL, G.linesT] using e10
 refine putC (d := 0) Q10 hd (by omega) (by omega) fun A26 c26 h25 Q26 => ⟨rfl, ?_⟩
 have eW : l10 ++ (G.cls (2 * 0) ++ [10]) = G.wr tx D := by
  have e0 : G.linesT [G.cls 0] = G.cls 0 ++ [10] := by simp [G.linesT]
  unfold G.wr G.docL
  have dd : D.dir = dir := by rw [hD]; rfl
  rw [G.linesT_cons, G.linesT_cons, G.linesT_app, G.linesT_app, e0, e10, hb2, e8, hb, dN, dW, dd]
  simp only [List.append_assoc, List.cons_append, List.nil_append]
 rw [eW] at Q26
 have hv : wrV tx (k : Int) dir es ls ss ws = if 262144 < (G.wr tx D).length then ([], 23) else (G.wr tx D, 0) := by
  unfold wrV; rw [if_neg (by rw [q]; decide), <- hD]
 refine callX_ofR (R := fun v h' => v = .int .i64 ((G.wr tx D).length : Int) /\ Fr [] h25 h') [] ((ok43 (wC_pick Q26)).mono fun v h' r => ⟨r.1, by rw [r.2]; exact Fr.refl _ _⟩) (by simp) (fun _ _ r => r.2) ?_
 rintro v h26 ⟨rfl, f26⟩
 have Q27 := Q26.gr f26
 refine ⟨_, rfl, cnd_dec (fun q2 => ⟨?_, Q27.fr⟩) fun q2 => ?_⟩
 ·rw [hv, if_pos (by omega)]; rfl
 refine callX_ofR (owns (wC b true A26 c26 0 (G.wr tx D))) (ok44 (wC_pick Q27) ?_) (fun x hx => (hd.apart Q27 x hx).2) (fun _ _ r => r.2) ?_
 ·unfold G.wr G.docL; rw [G.linesT_cons]; simp [G.opn, G.kv, G.kGraph]
 rintro v h27 ⟨rfl, f27⟩
 refine ⟨_, rfl, ?_, Sq.frA Q27 f27⟩
 rw [hv, if_neg (by omega)]
end
end Go.Proofs.YtlflalecmhgmjaaGreatDoor.N
