/- A document that is written, with whatever blanks where lines end, is read as it was, its numbers clean. Conditions: its numbers' texts lead back. -/
import Derived.Test.YtlflalecmhgmjaaGreatDoorHBr
set_option linter.unusedVariables false
set_option linter.unusedSimpArgs false
namespace Go.Proofs.YtlflalecmhgmjaaGreatDoor.G
def ind (n : Nat) : List UInt8 := List.replicate n 32
def kv (n : Nat) (k v : List UInt8) : List UInt8 := ind n ++ (k ++ 32 :: v)
def opn (n : Nat) (k : List UInt8) : List UInt8 := kv n k [91]
def cls (n : Nat) : List UInt8 := ind n ++ [93]
def quo (l : List UInt8) : List UInt8 := 34 :: (enc l ++ [34])
def spotL (tx : Nat -> List UInt8) (p : Nat × Nat) : List (List UInt8) := [opn 4 kGraphics, kv 6 kX (tx p.1), kv 6 kY (tx p.2), cls 4]
def nodeL (tx : Nat -> List UInt8) (lab : Option ByteArray) (sp : Option (Nat × Nat)) (v : Nat) : List (List UInt8) :=
 opn 2 kNode :: kv 4 kId (dec v) :: ((match lab with | some l => [kv 4 kLabel (quo l.data.toList)] | none => []) ++ ((match sp with | some p => spotL tx p | none => []) ++ [cls 2]))
def edgeL (tx : Nat -> List UInt8) (w : Option Nat) (e : Nat × Nat) : List (List UInt8) :=
 opn 2 kEdge :: kv 4 kSource (dec e.1) :: kv 4 kTarget (dec e.2) :: ((match w with | some x => [kv 4 kWeight (tx x)] | none => []) ++ [cls 2])
def nodesL (tx : Nat -> List UInt8) (d : Dc) : Nat -> Nat -> List (List UInt8)
 | 0, _ => []
 | k + 1, v => nodeL tx d.labels[v]? d.spots[v]? v ++ nodesL tx d k (v + 1)
def edgesL (tx : Nat -> List UInt8) : List (Nat × Nat) -> List Nat -> List (List UInt8)
 | [], _ => []
 | e :: es, ws => edgeL tx ws.head? e ++ edgesL tx es ws.tail
def docL (tx : Nat -> List UInt8) (d : Dc) : List (List UInt8) :=
 opn 0 kGraph :: kv 2 kDirected (if d.dir = true then [49] else [48]) :: (nodesL tx d d.n 0 ++ (edgesL tx d.edges d.weights ++ [cls 0]))
inductive Sp : List (List UInt8) -> List UInt8 -> Prop where
 | nil : Sp [] []
 | cons {l : List UInt8} {ls : List (List UInt8)} {w t : List UInt8} : Bl w -> Sep w -> Sp ls t -> Sp (l :: ls) (l ++ (w ++ t))
theorem Sp.inv {l : List UInt8} {ls : List (List UInt8)} {t : List UInt8} (h : Sp (l :: ls) t) : ∃ w t', t = l ++ (w ++ t') /\ Bl w /\ Sep w /\ Sp ls t' := by
 cases h with
 | cons a b c => exact ⟨_, _, rfl, a, b, c⟩
theorem bl_ind : ∀ n, Bl (ind n)
 | 0 => .nil
 | n + 1 => by
  show Bl (32 :: ind n)
  exact .blank rfl (bl_ind n)
section
variable {s : ByteArray} {rd : ByteArray -> Option (Nat × Nat)} {cl : Nat -> Nat} {tx : Nat -> List UInt8}
theorem sep32 (l : List UInt8) : Sep (32 :: l) := ⟨32, l, rfl, rfl⟩
theorem bl32 : Bl [32] := .blank rfl .nil
theorem key_at {i n : Nat} {w0 k v w t : List UInt8} (a : At s i (w0 ++ (kv n k v ++ (w ++ t)))) : At s i ((w0 ++ ind n) ++ (k ++ (32 :: (v ++ (w ++ t))))) := by
 simpa [kv, List.append_assoc] using a
def BigP (s : ByteArray) (rd : ByteArray -> Option (Nat × Nat)) (cl : Nat -> Nat) (l : Lv) (d : Nat) (r : Rd) (P : Nat -> Lv -> Rd -> Prop) : Prop := ∃ e l' r', Big s rd cl l d r (e, l', r') /\ P e l' r'
theorem line_num {l l' : Lv} {d n v : Nat} {σ : Rd} {σ1 : Nat -> Rd} {x : Tk} {w0 k y w t : List UInt8} {P : Nat -> Lv -> Rd -> Prop} (a : At s σ.i (w0 ++ (kv n k y ++ (w ++ t)))) (h0 : Bl w0) (hk : ∀ l, Sep l -> Wd k l) (hy : NumT rd y v) (hw : Sep w)
  (hkey : ∀ t j, t.l = k -> key l t { σ with i := j } = .ok (x, l', σ1 j)) (hi : ∀ j, (σ1 j).i = j) (hx : x.kind = 0 \/ x.kind = 4)
  (ht : ∀ (u : Tok) j1 j, u.l = y -> u.num = v -> u.kind = 4 -> σ.i < j -> At s j (w ++ t) -> ∃ σ2, take cl x u { σ1 j1 with i := j } = .ok σ2 /\ σ2.i = j /\ BigP s rd cl l' d σ2 P) : BigP s rd cl l d σ P := by
 have a1 := key_at a
 have hb : Bl (w0 ++ ind n) := h0.app (bl_ind n)
 have a2 := At.app (At.app a1)
 have hsw := hw.app (m := t)
 have a3 : At s (σ1 (σ.i + (w0 ++ ind n).length + k.length)).i ([32] ++ (y ++ (w ++ t))) := by rw [hi]; exact a2
 obtain ⟨u, u1, u2, u3, u4⟩ := value_txt (cl := cl) (d := d) bl32 hy hsw.numb hsw.word a3 hx
 have a4 := At.app (At.app a3)
 obtain ⟨σ2, q1, q2, e, l2, r2, q3, q4⟩ := ht u (σ.i + (w0 ++ ind n).length + k.length) _ u1 u2 u3 (by rw [hi]; simp only [List.length_singleton]; omega) a4
 refine ⟨e, l2, r2, big_key hb (hk _ (sep32 _)) a1 (fun t ht => hkey t _ ht) (fun m hm => ?_) ?_ ?_ q3, q4⟩
 ·rw [u4]; exact q1
 ·rw [q2, hi]; simp only [List.length_singleton]; omega
 ·rw [q2]; exact a4.1
theorem line_str {l l' : Lv} {d n : Nat} {σ : Rd} {σ1 : Nat -> Rd} {x : Tk} {w0 k y w t : List UInt8} {P : Nat -> Lv -> Rd -> Prop} (a : At s σ.i (w0 ++ (kv n k (quo y) ++ (w ++ t)))) (h0 : Bl w0) (hk : ∀ l, Sep l -> Wd k l) (hy : ∀ c ∈ y, prnt c.toNat = true)
  (hkey : ∀ t j, t.l = k -> key l t { σ with i := j } = .ok (x, l', σ1 j)) (hi : ∀ j, (σ1 j).i = j) (hx : x.kind = 0 \/ x.kind = 5)
  (ht : ∀ (u : Tok) j1 j, u.says = mkB y -> u.kind = 5 -> σ.i < j -> At s j (w ++ t) -> ∃ σ2, take cl x u { σ1 j1 with i := j } = .ok σ2 /\ σ2.i = j /\ BigP s rd cl l' d σ2 P) : BigP s rd cl l d σ P := by
 have a1 := key_at a
 have hb : Bl (w0 ++ ind n) := h0.app (bl_ind n)
 have a2 := At.app (At.app a1)
 have a3 : At s (σ1 (σ.i + (w0 ++ ind n).length + k.length)).i ([32] ++ 34 :: (enc y ++ 34 :: (w ++ t))) := by rw [hi]; simpa [quo] using a2
 obtain ⟨u, u1, u2, a4, u4⟩ := value_str (rd := rd) (cl := cl) (d := d) bl32 hy a3 hx
 obtain ⟨σ2, q1, q2, e, l2, r2, q3, q4⟩ := ht u (σ.i + (w0 ++ ind n).length + k.length) _ u1 u2 (by rw [hi]; simp only [List.length_singleton]; omega) a4
 refine ⟨e, l2, r2, big_key hb (hk _ (sep32 _)) a1 (fun t ht => hkey t _ ht) (fun m hm => ?_) ?_ ?_ q3, q4⟩
 ·rw [u4]; exact q1
 ·rw [q2, hi]; simp only [List.length_singleton]; omega
 ·rw [q2]; exact a4.1
theorem line_open {l l' l2 : Lv} {d n : Nat} {σ : Rd} {σ1 : Nat -> Rd} {w0 k w t : List UInt8} {P : Nat -> Lv -> Rd -> Prop} (a : At s σ.i (w0 ++ (opn n k ++ (w ++ t)))) (h0 : Bl w0) (hk : ∀ l, Sep l -> Wd k l) (hd : d < 16)
  (hkey : ∀ t j, t.l = k -> key l t { σ with i := j } = .ok (.list l2, l', σ1 j)) (hi : ∀ j, (σ1 j).i = j)
  (hin : ∀ j1 j, σ.i < j -> At s j (w ++ t) -> BigP s rd cl l2 (d + 1) { σ1 j1 with i := j } fun e l3 r2 => ∃ r3, behind l3 e r2 = .ok r3 /\ j < r3.i /\ r3.i <= s.size /\ BigP s rd cl l' d r3 P) : BigP s rd cl l d σ P := by
 have a1 := key_at a
 have hb : Bl (w0 ++ ind n) := h0.app (bl_ind n)
 have a2 := At.app (At.app a1)
 have a3 : At s (σ1 (σ.i + (w0 ++ ind n).length + k.length)).i ([32] ++ 91 :: (w ++ t)) := by rw [hi]; exact a2
 have a4 : At s ((σ1 (σ.i + (w0 ++ ind n).length + k.length)).i + 1 + 1) (w ++ t) := (At.app a3).cons.2.2
 obtain ⟨e, l3, r2, q1, r3, q2, q3, q4, e', l4, r4, q5, q6⟩ := hin (σ.i + (w0 ++ ind n).length + k.length) _ (by rw [hi]; omega) a4
 rw [hi] at q3
 refine ⟨e', l4, r4, big_key hb (hk _ (sep32 _)) a1 (fun t ht => hkey t _ ht) (fun m hm => ?_) ?_ q4 q5, q6⟩
 ·refine value_list bl32 a3 hd ?_ q1 q2
  rw [hi]; simp only [List.length_singleton]; omega
 ·omega
theorem line_close {l : Lv} {d n : Nat} {σ : Rd} {w0 w t : List UInt8} {P : Nat -> Lv -> Rd -> Prop} (a : At s σ.i (w0 ++ (cls n ++ (w ++ t)))) (h0 : Bl w0) (hl : isTop l = false) (hp : ∀ e j, σ.i < j -> At s j (w ++ t) -> P e l { σ with i := j }) : BigP s rd cl l d σ P := by
 have a1 : At s σ.i ((w0 ++ ind n) ++ 93 :: (w ++ t)) := by simpa [cls, List.append_assoc] using a
 obtain ⟨q1, q2⟩ := big_end (rd := rd) (cl := cl) (d := d) hl (h0.app (bl_ind n)) a1
 exact ⟨_, _, _, q1, hp _ _ (by omega) q2⟩
theorem wd_of {k : List UInt8} (h1 : ∃ c r, k = c :: r /\ lettr c.toNat = true) (h2 : ∀ c ∈ k, wordB c.toNat = true) : ∀ l, Sep l -> Wd k l := fun l hl => ⟨h1, h2, hl.word⟩
theorem wdGraph : ∀ l, Sep l -> Wd kGraph l := wd_of ⟨103, _, rfl, rfl⟩ (by decide)
theorem wdDirected : ∀ l, Sep l -> Wd kDirected l := wd_of ⟨100, _, rfl, rfl⟩ (by decide)
theorem wdNode : ∀ l, Sep l -> Wd kNode l := wd_of ⟨110, _, rfl, rfl⟩ (by decide)
theorem wdEdge : ∀ l, Sep l -> Wd kEdge l := wd_of ⟨101, _, rfl, rfl⟩ (by decide)
theorem wdId : ∀ l, Sep l -> Wd kId l := wd_of ⟨105, _, rfl, rfl⟩ (by decide)
theorem wdLabel : ∀ l, Sep l -> Wd kLabel l := wd_of ⟨108, _, rfl, rfl⟩ (by decide)
theorem wdGraphics : ∀ l, Sep l -> Wd kGraphics l := wd_of ⟨103, _, rfl, rfl⟩ (by decide)
theorem wdX : ∀ l, Sep l -> Wd kX l := wd_of ⟨120, _, rfl, rfl⟩ (by decide)
theorem wdY : ∀ l, Sep l -> Wd kY l := wd_of ⟨121, _, rfl, rfl⟩ (by decide)
theorem wdSource : ∀ l, Sep l -> Wd kSource l := wd_of ⟨115, _, rfl, rfl⟩ (by decide)
theorem wdTarget : ∀ l, Sep l -> Wd kTarget l := wd_of ⟨116, _, rfl, rfl⟩ (by decide)
theorem wdWeight : ∀ l, Sep l -> Wd kWeight l := wd_of ⟨119, _, rfl, rfl⟩ (by decide)
theorem set_last {α : Type} (l : List α) (a b : α) : (l ++ [a]).set l.length b = l ++ [b] := by
 rw [List.set_append_right _ _ (Nat.le_refl _), Nat.sub_self]; rfl
theorem modify_last {α : Type} (l : List α) (a : α) (f : α -> α) : (l ++ [a]).modify l.length f = l ++ [f a] := by
 induction l with
 | nil => rfl
 | cons x l ih => simp only [List.cons_append, List.length_cons, List.modify_succ_cons, ih]
theorem spot_read {σ : Rd} {v d : Nat} {sp : List (Nat × Nat)} {q : Nat × Nat} {p : Nat × Nat} {w0 tt : List UInt8} {P : Nat -> Lv -> Rd -> Prop} {ls : List (List UInt8)} {vx vy : Nat} (hx : NumT rd (tx p.1) vx) (hy : NumT rd (tx p.2) vy) (hsp : σ.spots = sp ++ [q]) (hv : sp.length = v) (hd : d < 16) (h0 : Bl w0)
  {l l' : Lv} (hkey : ∀ (t : Tok) (j : Nat), t.l = kGraphics -> key l t { σ with i := j } = .ok (.list (.spot v false false), l', { σ with i := j })) (ht : Sp (spotL tx p ++ ls) tt) (a : At s σ.i (w0 ++ tt))
  (hp : ∀ j w t, σ.i < j -> At s j (w ++ t) -> Bl w -> Sp ls t -> BigP s rd cl l' d { σ with i := j, spots := sp ++ [(cl vx, cl vy)], h1 := true } P) : BigP s rd cl l d σ P := by
 obtain ⟨w1, t1, rfl, b1, s1, ht⟩ := Sp.inv ht
 obtain ⟨w2, t2, rfl, b2, s2, ht⟩ := Sp.inv ht
 obtain ⟨w3, t3, rfl, b3, s3, ht⟩ := Sp.inv ht
 obtain ⟨w4, t4, rfl, b4, s4, ht⟩ := Sp.inv ht
 refine line_open (σ1 := fun j => { σ with i := j }) a h0 wdGraphics hd hkey (fun j => rfl) fun j0 j1 lt1 a => ?_
 refine line_num (x := .spot v false) (l' := .spot v true false) (σ1 := fun j => { σ with i := j }) a b1 wdX hx s2 (fun t j e => by simp [key, e, kX, kY, must]) (fun j => rfl) (.inr rfl) fun u j0 j2 u1 u2 u3 lt2 a => ?_
 refine ⟨{ σ with i := j2, spots := sp ++ [(cl vx, q.2)], h1 := true }, ?_, rfl, ?_⟩
 ·subst hv
  simp only [take, u2, hsp, modify_last, Bool.false_eq_true, if_false]
 refine line_num (x := .spot v true) (l' := .spot v true true) (σ1 := fun j => { σ with i := j, spots := sp ++ [(cl vx, q.2)], h1 := true }) a b2 wdY hy s3 (fun t j e => by simp [key, e, kX, kY, must]) (fun j => rfl) (.inr rfl) fun u j0 j3 u1 u2 u3 lt3 a => ?_
 refine ⟨{ σ with i := j3, spots := sp ++ [(cl vx, cl vy)], h1 := true }, ?_, rfl, ?_⟩
 ·subst hv
  simp only [take, u2, modify_last, if_true]
 refine line_close a b3 rfl fun e j4 lt4 a => ?_
 simp only at lt2 lt3 lt4
 exact ⟨_, rfl, by simp only; omega, a.1, hp j4 w4 t4 (by omega) a b4 ht⟩
def labs (d : Dc) (v : Nat) : List ByteArray := (List.range v).map fun k => d.labels.getD k noB
def spts (f : Nat -> Nat) (d : Dc) (v : Nat) : List (Nat × Nat) := (List.range v).map fun k => (d.spots[k]?.map fun p => (f p.1, f p.2)).getD (0, 0)
def stN (f : Nat -> Nat) (d : Dc) (v i : Nat) : Rd := ⟨i, v, d.dir, true, (List.range v).map fun k : Nat => ((k : Int), k), labs d v, spts f d v, [], decide (0 < v /\ d.labels ≠ []), decide (0 < v /\ d.spots ≠ []), false, []⟩
structure Ok (d : Dc) : Prop where
 n : d.n <= 1024
 m : d.edges.length <= 3072
 e : ∀ e ∈ d.edges, e.1 < d.n /\ e.2 < d.n
 l : d.labels = [] \/ d.labels.length = d.n
 p : ∀ l ∈ d.labels, l.size <= 256 /\ ∀ c ∈ l.data.toList, prnt c.toNat = true
 s : d.spots = [] \/ d.spots.length = d.n
 w : d.weights = [] \/ d.weights.length = d.edges.length
theorem ids_any (v : Nat) : ((List.range v).map fun k : Nat => ((k : Int), k)).any (fun p => p.1 == (v : Int)) = false := by
 rw [List.any_eq_false]
 intro p hp
 obtain ⟨k, hk, rfl⟩ := List.mem_map.1 hp
 have := List.mem_range.1 hk
 simp; omega
theorem range_map {α : Type} (f : Nat -> α) (v : Nat) : (List.range (v + 1)).map f = (List.range v).map f ++ [f v] := by rw [List.range_succ, List.map_append]; rfl
def TxOK (rd : ByteArray -> Option (Nat × Nat)) (tx : Nat -> List UInt8) (f : Nat -> Nat) (d : Dc) : Prop :=
 (∀ p ∈ d.spots, NumT rd (tx p.1) (f p.1) /\ NumT rd (tx p.2) (f p.2)) /\ (∀ x ∈ d.weights, NumT rd (tx x) (f x))
def RdW (rd : ByteArray -> Option (Nat × Nat)) : Prop := ∀ n : Nat, n <= 2147483648 -> ∃ v, NumT rd (dec n) v
theorem node_read {d : Dc} {f : Nat -> Nat} (ok : Ok d) (hr : RdW rd) (tok : TxOK rd tx f d) {v : Nat} (hv : v < d.n) {w0 tt : List UInt8} {P : Nat -> Lv -> Rd -> Prop} {ls : List (List UInt8)} {i : Nat} (h0 : Bl w0)
  (ht : Sp (nodeL tx d.labels[v]? d.spots[v]? v ++ ls) tt) (a : At s i (w0 ++ tt)) (hp : ∀ j w t, i < j -> At s j (w ++ t) -> Bl w -> Sp ls t -> BigP s rd cl (.graph true) 1 (stN (fun x => cl (f x)) d (v + 1) j) P) :
  BigP s rd cl (.graph true) 1 (stN (fun x => cl (f x)) d v i) P := by
 unfold nodeL at ht
 rw [List.cons_append, List.cons_append, List.append_assoc, List.append_assoc] at ht
 obtain ⟨w1, t1, rfl, b1, s1, ht⟩ := Sp.inv ht
 obtain ⟨w2, t2, rfl, b2, s2, ht⟩ := Sp.inv ht
 have hn := ok.n
 let g : Nat -> Nat := fun x => cl (f x)
 let σ1 : Nat -> Rd := fun j => { stN g d v j with n := v + 1, labels := labs d v ++ [noB], spots := spts g d v ++ [(0, 0)] }
 refine line_open (σ1 := σ1) (l2 := .node v false false false) (l' := .graph true) a h0 wdNode (by decide) (fun t j e => ?_) (fun j => rfl) fun j0 j1 lt1 a => ?_
 ·exact (key_node e (by show v < 1024; omega)).trans rfl
 obtain ⟨vv, hvv⟩ := hr v (by omega)
 let σ2 : Nat -> Rd := fun j => { σ1 j with ids := (List.range (v + 1)).map fun k : Nat => ((k : Int), k) }
 refine line_num (x := .id v) (l' := .node v true false false) (σ1 := fun j => σ1 j) a b1 wdId hvv s2 (fun t j e => by simp [key, e, must]; rfl) (fun j => rfl) (.inr rfl) fun u j0 j2 u1 u2 u3 lt2 a => ?_
 refine ⟨σ2 j2, ?_, rfl, ?_⟩
 ·simp only [take, u1, whole_dec v (by omega)]
  have : (σ1 j0).ids = (List.range v).map fun k : Nat => ((k : Int), k) := rfl
  simp only [σ1, stN, ids_any, must, Bool.not_false, σ2, range_map]
 have lt1' : i < j1 := lt1
 have lt2' : j1 < j2 := lt2
 let σ3 : Nat -> Rd := fun j => { σ2 j with labels := labs d (v + 1), h0 := decide (0 < v + 1 /\ d.labels ≠ []) }
 have lab : ∀ (j2 : Nat) {w t : List UInt8} {c : Bool}, j1 < j2 -> Bl w -> At s j2 (w ++ t) -> Sp ((match d.labels[v]? with | some l => [kv 4 kLabel (quo l.data.toList)] | none => []) ++ ((match d.spots[v]? with | some p => spotL tx p | none => []) ++ ([cls 2] ++ ls))) t ->
   (∀ (j : Nat) (b : Bool) {w t : List UInt8}, j1 < j -> Bl w -> At s j (w ++ t) -> Sp ((match d.spots[v]? with | some p => spotL tx p | none => []) ++ ([cls 2] ++ ls)) t -> BigP s rd cl (.node v true b false) 2 (σ3 j) fun e l3 r2 => ∃ r3, behind l3 e r2 = .ok r3 /\ j1 < r3.i /\ r3.i <= s.size /\ BigP s rd cl (.graph true) 1 r3 P) ->
   BigP s rd cl (.node v true false false) 2 (σ2 j2) fun e l3 r2 => ∃ r3, behind l3 e r2 = .ok r3 /\ j1 < r3.i /\ r3.i <= s.size /\ BigP s rd cl (.graph true) 1 r3 P := by
  intro j2 w t _ lt2 hw a ht k
  have hlen : (labs d v).length = v := by simp [labs]
  rcases ok.l with e0 | el
  ·have en : d.labels[v]? = none := by rw [e0]; rfl
   rw [en] at ht
   have e3 : σ2 j2 = σ3 j2 := by
    simp only [σ3, σ2, σ1, stN, labs, range_map, e0]
    simp
   rw [e3]
   exact k j2 false lt2 hw a ht
  ·have es : d.labels[v]? = some d.labels[v] := List.getElem?_eq_getElem (by omega)
   rw [es] at ht
   obtain ⟨w3, t3, rfl, b3, s3, ht⟩ := Sp.inv ht
   obtain ⟨p1, p2⟩ := ok.p d.labels[v] (List.getElem_mem _)
   refine line_str (x := .label v) (l' := .node v true true false) (σ1 := fun j => σ2 j) a hw wdLabel p2 (fun t j e => by simp [key, e, kId, kLabel, must]; rfl) (fun j => rfl) (.inr rfl) fun u j0 j3 u1 u2 lt3 a => ?_
   have lt3' : j2 < j3 := lt3
   refine ⟨σ3 j3, ?_, rfl, k j3 true (by omega) b3 a ht⟩
   have us : u.says = d.labels[v] := by rw [u1]; rfl
   have ul : u.l.all (fun c => prnt c.toNat) = true := by
    unfold Tok.l; rw [us]; exact List.all_eq_true.2 p2
   simp only [take, us, ul, p1, decide_true, must]
   have e4 : (labs d v ++ [noB]).set v d.labels[v] = labs d (v + 1) := by
    conv => lhs; arg 2; rw [<- hlen]
    rw [set_last]
    simp only [labs, range_map]
    congr 2
    simp [List.getD, es]
   have e5 : decide (0 < v + 1 /\ d.labels ≠ []) = true := by
    have : d.labels ≠ [] := by intro h; rw [h] at el; simp at el; omega
    simp [this]
   simp only [σ3, σ2, σ1, e4, e5]
   rfl
 let σ4 : Nat -> Rd := fun j => stN g d (v + 1) j
 refine lab j2 (c := true) lt2' b2 a ht fun j3 b w t lt3 hw a ht => ?_
 have fin : ∀ (j : Nat) (b c : Bool) {w t : List UInt8}, j1 < j -> Bl w -> At s j (w ++ t) -> Sp ([cls 2] ++ ls) t -> BigP s rd cl (.node v true b c) 2 (σ4 j) fun e l3 r2 => ∃ r3, behind l3 e r2 = .ok r3 /\ j1 < r3.i /\ r3.i <= s.size /\ BigP s rd cl (.graph true) 1 r3 P := by
  intro j b c w t lt hw a ht
  obtain ⟨w5, t5, rfl, b5, s5, ht⟩ := Sp.inv ht
  refine line_close a hw rfl fun e j5 lt5 a => ?_
  have lt5' : j < j5 := lt5
  exact ⟨stN g d (v + 1) j5, rfl, by show j1 < j5; omega, a.1, hp j5 w5 t5 (by omega) a b5 ht⟩
 have hlen : (spts g d v).length = v := by simp [spts]
 rcases ok.s with e0 | el
 ·have en : d.spots[v]? = none := by rw [e0]; rfl
  rw [en] at ht
  have e3 : σ3 j3 = σ4 j3 := by
   simp only [σ4, σ3, σ2, σ1, stN, spts, range_map, e0]
   simp
  rw [e3]
  exact fin j3 b false lt3 hw a ht
 ·have es : d.spots[v]? = some d.spots[v] := List.getElem?_eq_getElem (by omega)
  rw [es] at ht
  obtain ⟨q1, q2⟩ := tok.1 d.spots[v] (List.getElem_mem _)
  refine spot_read (l' := .node v true b true) (σ := σ3 j3) q1 q2 (sp := spts g d v) rfl hlen (by decide) hw (fun t j e => by simp [key, e, kId, kLabel, kGraphics, must]) ht a fun j w t lt a hw ht => ?_
  have lt' : j3 < j := lt
  have e3 : ({ σ3 j3 with i := j, spots := spts g d v ++ [(cl (f d.spots[v].1), cl (f d.spots[v].2))], h1 := true } : Rd) = σ4 j := by
   have e5 : decide (0 < v + 1 /\ d.spots ≠ []) = true := by
    have : d.spots ≠ [] := by intro h; rw [h] at el; simp at el; omega
    simp [this]
   simp only [σ4, σ3, σ2, σ1, stN, e5]
   congr 1
   simp only [spts, range_map]
   congr 2
   simp [es, g]
  rw [e3]
  exact fin j b true (by omega) hw a ht
theorem nodes_read {d : Dc} {f : Nat -> Nat} (ok : Ok d) (hr : RdW rd) (tok : TxOK rd tx f d) {P : Nat -> Lv -> Rd -> Prop} {ls : List (List UInt8)} : ∀ (k : Nat) {v i : Nat} {w0 tt : List UInt8}, v + k = d.n -> Bl w0 ->
  Sp (nodesL tx d k v ++ ls) tt -> At s i (w0 ++ tt) -> (∀ j w t, i <= j -> At s j (w ++ t) -> Bl w -> Sp ls t -> BigP s rd cl (.graph true) 1 (stN (fun x => cl (f x)) d d.n j) P) -> BigP s rd cl (.graph true) 1 (stN (fun x => cl (f x)) d v i) P
 | 0, v, i, w0, tt, hv, h0, ht, a, hp => by
  obtain rfl : v = d.n := by omega
  exact hp i w0 tt (Nat.le_refl _) a h0 ht
 | k + 1, v, i, w0, tt, hv, h0, ht, a, hp => by
  unfold nodesL at ht
  rw [List.append_assoc] at ht
  exact node_read ok hr tok (by omega) h0 ht a fun j w t lt a hw ht => nodes_read ok hr tok k (by omega) hw ht a fun j' w t lt' => hp j' w t (by omega)
def EndsOf (ts : List Tok) (es : List (Nat × Nat)) : Prop := ts.map Tok.l = es.flatMap fun e => [dec e.1, dec e.2]
theorem EndsOf.len {ts : List Tok} {es : List (Nat × Nat)} (h : EndsOf ts es) : ts.length = 2 * es.length := by
 have := congrArg List.length h
 rw [List.length_map] at this
 rw [this]
 clear this h
 induction es with
 | nil => rfl
 | cons e es ih => simp only [List.flatMap_cons, List.length_append, ih, List.length_cons, List.length_nil]; omega
def stE (f : Nat -> Nat) (d : Dc) (ts : List Tok) (ws : List Nat) (h2 : Bool) (i : Nat) : Rd := { stN f d d.n i with weights := ws, h2 := h2, ends := ts }
def one64 : Nat := 4607182418800017408
theorem set_two1 {α : Type} (l : List α) (a b c : α) : (l ++ [a, b]).set l.length c = l ++ [c, b] := by
 rw [List.set_append_right _ _ (Nat.le_refl _), Nat.sub_self]; rfl
theorem set_two2 {α : Type} (l : List α) (a b c : α) : (l ++ [a, b]).set (l.length + 1) c = l ++ [a, c] := by
 rw [List.set_append_right _ _ (by omega), show l.length + 1 - l.length = 1 by omega]; rfl
theorem edge_read {d : Dc} {f : Nat -> Nat} (ok : Ok d) (hr : RdW rd) {e : Nat × Nat} (he : e.1 < d.n /\ e.2 < d.n) {wt : Option Nat} (hwt : ∀ x, wt = some x -> NumT rd (tx x) (f x)) {ts : List Tok} {ws : List Nat} {h2 : Bool} {es : List (Nat × Nat)} (hts : EndsOf ts es) (hws : ws.length = es.length) (hes : es.length < 3072)
  {w0 tt : List UInt8} {P : Nat -> Lv -> Rd -> Prop} {ls : List (List UInt8)} {i : Nat} (h0 : Bl w0) (ht : Sp (edgeL tx wt e ++ ls) tt) (a : At s i (w0 ++ tt))
  (hp : ∀ ts' j w t, i < j -> EndsOf ts' (es ++ [e]) -> At s j (w ++ t) -> Bl w -> Sp ls t -> BigP s rd cl (.graph true) 1 (stE (fun x => cl (f x)) d ts' (ws ++ [(wt.map fun x => cl (f x)).getD one64]) (h2 || wt.isSome) j) P) :
  BigP s rd cl (.graph true) 1 (stE (fun x => cl (f x)) d ts ws h2 i) P := by
 unfold edgeL at ht
 rw [List.cons_append, List.cons_append, List.cons_append, List.append_assoc] at ht
 obtain ⟨w1, t1, rfl, b1, s1, ht⟩ := Sp.inv ht
 obtain ⟨w2, t2, rfl, b2, s2, ht⟩ := Sp.inv ht
 obtain ⟨w3, t3, rfl, b3, s3, ht⟩ := Sp.inv ht
 have hn := ok.n
 have hl := hts.len
 let g : Nat -> Nat := fun x => cl (f x)
 let z : Tok := ⟨0, 0, noB, 0⟩
 refine line_open (σ1 := fun j => stE g d (ts ++ [z, z]) (ws ++ [one64]) h2 j) (l2 := .edge ts.length false false false) (l' := .graph true) a h0 wdEdge (by decide) (fun t j e => ?_) (fun j => rfl) fun j0 j1 lt1 a => ?_
 ·exact (key_edge e (by show ts.length / 2 < 3072; omega)).trans rfl
 obtain ⟨v1, hv1⟩ := hr e.1 (by omega)
 obtain ⟨v2, hv2⟩ := hr e.2 (by omega)
 refine line_num (x := .fin ts.length) (l' := .edge ts.length true false false) (σ1 := fun j => stE g d (ts ++ [z, z]) (ws ++ [one64]) h2 j) a b1 wdSource hv1 s2 (fun t j e => by simp [key, e, must]; rfl) (fun j => rfl) (.inr rfl) fun u j0 j2 u1 u2 u3 lt2 a => ?_
 refine ⟨stE g d (ts ++ [u, z]) (ws ++ [one64]) h2 j2, ?_, rfl, ?_⟩
 ·simp only [take, u1, whole_dec e.1 (by omega), stE, set_two1]
  rfl
 refine line_num (x := .fin (ts.length + 1)) (l' := .edge ts.length true true false) (σ1 := fun j => stE g d (ts ++ [u, z]) (ws ++ [one64]) h2 j) a b2 wdTarget hv2 s3 (fun t j e => by simp [key, e, kSource, kTarget, must]; rfl) (fun j => rfl) (.inr rfl) fun u' j0 j3 u1' u2' u3' lt3 a => ?_
 refine ⟨stE g d (ts ++ [u, u']) (ws ++ [one64]) h2 j3, ?_, rfl, ?_⟩
 ·simp only [take, u1', whole_dec e.2 (by omega), stE, set_two2]
  rfl
 have lt1' : i < j1 := lt1
 have lt2' : j1 < j2 := lt2
 have lt3' : j2 < j3 := lt3
 have hts' : EndsOf (ts ++ [u, u']) (es ++ [e]) := by
  unfold EndsOf at hts ⊢
  rw [List.map_append, hts, List.flatMap_append]
  simp [u1, u1']
 have fin : ∀ (j : Nat) (c : Bool) {w t : List UInt8}, j1 < j -> Bl w -> At s j (w ++ t) -> Sp ([cls 2] ++ ls) t -> BigP s rd cl (.edge ts.length true true c) 2 (stE g d (ts ++ [u, u']) (ws ++ [(wt.map g).getD one64]) (h2 || wt.isSome) j) fun e l3 r2 => ∃ r3, behind l3 e r2 = .ok r3 /\ j1 < r3.i /\ r3.i <= s.size /\ BigP s rd cl (.graph true) 1 r3 P := by
  intro j c w t lt hw a ht
  obtain ⟨w5, t5, rfl, b5, s5, ht⟩ := Sp.inv ht
  refine line_close a hw rfl fun e j5 lt5 a => ?_
  have lt5' : j < j5 := lt5
  exact ⟨stE g d (ts ++ [u, u']) (ws ++ [(wt.map g).getD one64]) (h2 || wt.isSome) j5, rfl, by show j1 < j5; omega, a.1, hp _ j5 w5 t5 (by omega) hts' a b5 ht⟩
 cases wt with
 | none =>
  have e1 : (h2 || (none : Option Nat).isSome) = h2 := by simp
  rw [e1] at fin
  exact fin j3 false (by omega) b3 a ht
 | some x =>
  obtain ⟨w4, t4, rfl, b4, s4, ht⟩ := Sp.inv ht
  refine line_num (x := .weight ts.length) (l' := .edge ts.length true true true) (σ1 := fun j => stE g d (ts ++ [u, u']) (ws ++ [one64]) h2 j) a b3 wdWeight (hwt x rfl) s4 (fun t j e => by simp [key, e, kSource, kTarget, kWeight, must]; rfl) (fun j => rfl) (.inr rfl) fun u4 j0 j4 q1 q2 q3 lt4 a => ?_
  have lt4' : j3 < j4 := lt4
  refine ⟨_, ?_, ?_, fin j4 true (by omega) b4 a ht⟩
  ·simp only [take, q2, stE]
   have e2 : ts.length / 2 = ws.length := by omega
   rw [e2, set_last, show (h2 || (some x).isSome) = true by simp]
   rfl
  ·rfl
def extW (g : Nat -> Nat) : List (Nat × Nat) -> List Nat -> List Nat
 | [], _ => []
 | _ :: es, ws => (ws.head?.map g).getD one64 :: extW g es ws.tail
def anyW : List (Nat × Nat) -> List Nat -> Bool
 | [], _ => false
 | _ :: es, ws => ws.head?.isSome || anyW es ws.tail
theorem extW_eq (g : Nat -> Nat) : ∀ (es : List (Nat × Nat)) (ws : List Nat), ws.length = es.length -> extW g es ws = ws.map g
 | [], [], _ => rfl
 | _ :: es, x :: ws, h => by
  rw [extW, List.tail_cons, extW_eq g es ws (by simpa using h)]; rfl
 | [], _ :: _, h => by simp at h
 | _ :: _, [], h => by simp at h
theorem anyW_nil : ∀ es : List (Nat × Nat), anyW es [] = false
 | [] => rfl
 | _ :: es => by rw [anyW, List.tail_nil, anyW_nil es]; rfl
theorem anyW_eq : ∀ (es : List (Nat × Nat)) (ws : List Nat), ws.length = es.length -> anyW es ws = decide (ws ≠ [])
 | [], [], _ => rfl
 | _ :: es, x :: ws, h => by simp [anyW]
 | [], _ :: _, h => by simp at h
 | _ :: _, [], h => by simp at h
theorem edges_read {d : Dc} {f : Nat -> Nat} (ok : Ok d) (hr : RdW rd) {P : Nat -> Lv -> Rd -> Prop} {ls : List (List UInt8)} : ∀ (es2 : List (Nat × Nat)) (wts : List Nat) {es : List (Nat × Nat)} {ts : List Tok} {ws : List Nat} {h2 : Bool} {i : Nat} {w0 tt : List UInt8}, (∀ e ∈ es2, e.1 < d.n /\ e.2 < d.n) -> (∀ x ∈ wts, NumT rd (tx x) (f x)) ->
  EndsOf ts es -> ws.length = es.length -> es.length + es2.length <= 3072 -> Bl w0 -> Sp (edgesL tx es2 wts ++ ls) tt -> At s i (w0 ++ tt) ->
  (∀ ts' j w t, i <= j -> EndsOf ts' (es ++ es2) -> At s j (w ++ t) -> Bl w -> Sp ls t -> BigP s rd cl (.graph true) 1 (stE (fun x => cl (f x)) d ts' (ws ++ extW (fun x => cl (f x)) es2 wts) (h2 || anyW es2 wts) j) P) ->
  BigP s rd cl (.graph true) 1 (stE (fun x => cl (f x)) d ts ws h2 i) P
 | [], wts, es, ts, ws, h2, i, w0, tt, he, hx, hts, hws, hm, h0, ht, a, hp => by
  have := hp ts i w0 tt (Nat.le_refl _) (by rwa [List.append_nil]) a h0 ht
  simpa [extW, anyW] using this
 | e :: es2, wts, es, ts, ws, h2, i, w0, tt, he, hx, hts, hws, hm, h0, ht, a, hp => by
  unfold edgesL at ht
  rw [List.append_assoc] at ht
  rw [List.length_cons] at hm
  refine edge_read ok hr (he e (by simp)) (fun x q => hx x (List.mem_of_mem_head? (by rw [q]; rfl))) hts hws (by omega) h0 ht a fun ts' j w t lt hts' a hw ht => ?_
  refine edges_read ok hr es2 wts.tail (fun e q => he e (by simp [q])) (fun x q => hx x (List.mem_of_mem_tail q)) hts' (by simp [hws]) (by rw [List.length_append, List.length_singleton]; omega) hw ht a fun ts2 j2 w2 t2 lt2 k1 k4 k5 k6 => ?_
  rw [List.append_assoc] at k1
  have := hp ts2 j2 w2 t2 (by omega) k1 k4 k5 k6
  simpa [extW, anyW, Bool.or_assoc] using this
theorem find_ids (n v : Nat) (h : v < n) : find ((List.range n).map fun k : Nat => ((k : Int), k)) (v : Int) = some v := by
 unfold find
 have : ((List.range n).map fun k : Nat => ((k : Int), k)).find? (fun p => p.1 == (v : Int)) = some ((v : Int), v) := by
  rw [List.find?_eq_some_iff_append]
  refine ⟨by simp, (List.range v).map fun k : Nat => ((k : Int), k), (List.range' (v + 1) (n - v - 1)).map fun k : Nat => ((k : Int), k), ?_, fun p hp => ?_⟩
  ·rw [<- List.map_cons (f := fun k : Nat => ((k : Int), k)), <- List.map_append]
   congr 1
   rw [List.range_eq_range', List.range_eq_range', show n = v + ((n - v - 1) + 1) by omega, <- List.range'_append_1, List.range'_succ]
   simp
  ·obtain ⟨k, hk, rfl⟩ := List.mem_map.1 hp
   have := List.mem_range.1 hk
   simp; omega
 rw [this]; rfl
theorem endOf_ids {n v : Nat} {t : Tok} (h : v < n) (h2 : n <= 1024) (ht : t.l = dec v) : endOf ((List.range n).map fun k : Nat => ((k : Int), k)) t = .ok v := by
 unfold endOf
 rw [ht, whole_dec v (by omega)]
 simp only [find_ids n v h]
theorem edges_ids {n : Nat} (h2 : n <= 1024) : ∀ {es : List (Nat × Nat)} {ts : List Tok}, (∀ e ∈ es, e.1 < n /\ e.2 < n) -> EndsOf ts es -> edges ((List.range n).map fun k : Nat => ((k : Int), k)) ts = .ok es
 | [], ts, _, h => by
  have := h.len
  have : ts = [] := List.eq_nil_of_length_eq_zero (by simpa using this)
  rw [this]; rfl
 | e :: es, ts, he, h => by
  have hl := h.len
  match ts, h, hl with
  | a :: b :: ts, h, hl =>
   have h' : a.l = dec e.1 /\ b.l = dec e.2 /\ ts.map Tok.l = es.flatMap fun e => [dec e.1, dec e.2] := by
    unfold EndsOf at h; simpa using h
   obtain ⟨q1, q2⟩ := he e (by simp)
   rw [edges, endOf_ids q1 h2 h'.1]
   simp only [Er.bind]
   rw [endOf_ids q2 h2 h'.2.1]
   simp only [Er.bind]
   rw [edges_ids h2 (fun e q => he e (by simp [q])) h'.2.2]
  | [a], h, hl => simp at hl; omega
  | [], h, hl => simp at hl
def back (g : Nat -> Nat) (d : Dc) : Dc := { d with spots := d.spots.map fun p => (g p.1, g p.2), weights := d.weights.map g }
theorem read_back {d : Dc} {f : Nat -> Nat} (ok : Ok d) (hr : RdW rd) (tok : TxOK rd tx f d) (ht : Sp (docL tx d) s.data.toList) (hs : s.size <= 262144) : read rd cl s = .ok (back (fun x => cl (f x)) d) := by
 let g : Nat -> Nat := fun x => cl (f x)
 have a0 : At s 0 ([] ++ s.data.toList) := At.start s
 have key0 : BigP s rd cl .top 0 start fun e l r => ∃ ts i, EndsOf ts d.edges /\ r = stE g d ts (extW g d.edges d.weights) (anyW d.edges d.weights) i := by
  unfold docL at ht
  obtain ⟨w1, t1, et, b1, s1, ht⟩ := Sp.inv ht
  obtain ⟨w2, t2, rfl, b2, s2, ht⟩ := Sp.inv ht
  rw [et] at a0
  refine line_open (σ1 := fun j => { start with i := j, graph := true }) (l2 := .graph false) (l' := .top) (σ := start) a0 .nil wdGraph (by decide) (fun t j e => by simp [key, e, start, must]) (fun j => rfl) fun j0 j1 lt1 a => ?_
  obtain ⟨vd, hvd⟩ : ∃ v, NumT rd (if d.dir = true then [49] else [48]) v := by
   have e0 : dec 0 = [48] := by rw [dec]; rfl
   have e1 : dec 1 = [49] := by rw [dec]; rfl
   cases d.dir
   ·have := hr 0 (by decide); rwa [e0] at this
   ·have := hr 1 (by decide); rwa [e1] at this
  refine line_num (x := .dir) (l' := .graph true) (σ1 := fun j => { start with i := j, graph := true }) a b1 wdDirected hvd s2 (fun t j e => by simp [key, e, must]) (fun j => rfl) (.inr rfl) fun u j0 j2 u1 u2 u3 lt2 a => ?_
  refine ⟨stN g d 0 j2, ?_, rfl, ?_⟩
  ·simp only [take, u1]
   cases q : d.dir <;> simp [must, stN, start, labs, spts, q]
  refine nodes_read ok hr tok d.n (by omega) b2 ht a fun j3 w t lt3 a hw ht => ?_
  have e0 : stN g d d.n j3 = stE g d [] [] false j3 := rfl
  show BigP s rd cl (.graph true) 1 (stN g d d.n j3) _
  rw [e0]
  refine edges_read ok hr d.edges d.weights ok.e tok.2 (es := []) (ts := []) rfl rfl (by simpa using ok.m) hw ht a fun ts j4 w4 t4 lt4 k1 a hw ht => ?_
  obtain ⟨w5, t5, rfl, b5, s5, ht⟩ := Sp.inv ht
  cases ht
  refine line_close a hw rfl fun e j5 lt5 a => ⟨_, rfl, ?_, a.1, ?_⟩
  ·have h2 : j1 < j2 := lt2
   have h5 : j4 < j5 := lt5
   show j1 < j5
   omega
  ·rw [List.append_nil] at a
   exact ⟨_, _, _, big_top b5 a, ts, s.size, by simpa using k1, rfl⟩
 obtain ⟨e, l, r, hb, ts, i, k1, rfl⟩ := key0
 unfold read
 rw [must_t (decide_eq_true hs), hb (s.size + 1) (by simp [start])]
 simp only [must, Er.bind]
 have eg : (stE g d ts (extW g d.edges d.weights) (anyW d.edges d.weights) i).graph = true := rfl
 have ei : (stE g d ts (extW g d.edges d.weights) (anyW d.edges d.weights) i).ids = (List.range d.n).map fun k : Nat => ((k : Int), k) := rfl
 have ee : (stE g d ts (extW g d.edges d.weights) (anyW d.edges d.weights) i).ends = ts := rfl
 rw [eg, ei, ee, edges_ids ok.n ok.e k1]
 simp only []
 congr 1
 have nz : d.n = 0 -> d.labels = [] /\ d.spots = [] := fun h0 => ⟨ok.l.elim id fun q => List.eq_nil_of_length_eq_zero (by omega), ok.s.elim id fun q => List.eq_nil_of_length_eq_zero (by omega)⟩
 have eL : (if (stE g d ts (extW g d.edges d.weights) (anyW d.edges d.weights) i).h0 = true then (stE g d ts (extW g d.edges d.weights) (anyW d.edges d.weights) i).labels else []) = d.labels := by
  show (if decide (0 < d.n /\ d.labels ≠ []) = true then labs d d.n else []) = d.labels
  rcases ok.l with q | q
  ·rw [if_neg (by simp [q]), q]
  ·by_cases h0 : d.n = 0
   ·rw [if_neg (by simp [h0]), (nz h0).1]
   ·rw [if_pos (by have : d.labels ≠ [] := fun h => (by rw [h] at q; simp at q; omega); simp [this]; omega)]
    unfold labs
    apply List.ext_getElem?
    intro j
    rw [List.getElem?_map]
    by_cases hj : j < d.n
    ·rw [List.getElem?_range hj, List.getElem?_eq_getElem (by omega)]
     simp [List.getD, List.getElem?_eq_getElem (show j < d.labels.length by omega)]
    ·rw [List.getElem?_eq_none (by simp; omega), List.getElem?_eq_none (by omega)]; rfl
 have eS : (if (stE g d ts (extW g d.edges d.weights) (anyW d.edges d.weights) i).h1 = true then (stE g d ts (extW g d.edges d.weights) (anyW d.edges d.weights) i).spots else []) = d.spots.map fun p => (g p.1, g p.2) := by
  show (if decide (0 < d.n /\ d.spots ≠ []) = true then spts g d d.n else []) = _
  rcases ok.s with q | q
  ·rw [if_neg (by simp [q]), q]; rfl
  ·by_cases h0 : d.n = 0
   ·rw [if_neg (by simp [h0]), (nz h0).2]; rfl
   ·rw [if_pos (by have : d.spots ≠ [] := fun h => (by rw [h] at q; simp at q; omega); simp [this]; omega)]
    unfold spts
    apply List.ext_getElem?
    intro j
    rw [List.getElem?_map, List.getElem?_map]
    by_cases hj : j < d.n
    ·rw [List.getElem?_range hj, List.getElem?_eq_getElem (show j < d.spots.length by omega)]
     simp [List.getElem?_eq_getElem (show j < d.spots.length by omega)]
    ·rw [List.getElem?_eq_none (by simp; omega), List.getElem?_eq_none (by omega)]; rfl
 have eW : (if (stE g d ts (extW g d.edges d.weights) (anyW d.edges d.weights) i).h2 = true then (stE g d ts (extW g d.edges d.weights) (anyW d.edges d.weights) i).weights else []) = d.weights.map g := by
  show (if anyW d.edges d.weights = true then extW g d.edges d.weights else []) = _
  rcases ok.w with q | q
  ·rw [q, anyW_nil, if_neg (by simp)]; rfl
  ·rw [anyW_eq _ _ q, extW_eq g _ _ q]
   by_cases h0 : d.weights = []
   ·rw [if_neg (by simp [h0]), h0]; rfl
   ·rw [if_pos (by simp [h0])]
 rw [eL, eS, eW]
 rfl
end
end Go.Proofs.YtlflalecmhgmjaaGreatDoor.G
