/- What short texts of numbers read as: whole numbers, one and a half. Conditions: none. -/
import Derived.Test.YtlflalecmhgmjaaGreatDoorHTk
import Derived.Test.YtlflalecmhgmjaaGreatDoorHRead
import Derived.Test.YtlflalecmhgmjaaGreatDoorWEnv
import Derived.Test.YtlflalecmhgmjaaGreatDoorYGl
import Derived.Test.YtlflalecmhgmjaaGreatDoorKWrite
import Derived.Test.YtlflalecmhgmjaaGreatDoorKSame
import Derived.Test.YtlflalecmhgmjaaGreatDoorGWr
set_option linter.unusedVariables false
set_option linter.unusedSimpArgs false
namespace Go.Proofs.YtlflalecmhgmjaaGreatDoor.N
open Go.X Go.Proofs.YtlflalecmhgmjaaGreatDoor
set_option maxRecDepth 100000
set_option maxHeartbeats 1000000
structure Fast (b : ByteArray) (st : RS) (rest : List UInt8) : Prop where
 t : Txt b st rest
 tr : st.tr = false
 e1 : -345 <= expV st rest
 e2 : expV st rest <= 310
 x : st.m ≠ 0 -> (exactF st.m (expV st rest) (sgnOf b.data.toList).1).2 = true
def scB (b : ByteArray) : RS × List UInt8 := scan RS0 (b.data.toList.drop (sgnOf b.data.toList).2)
def fsV (b : ByteArray) : Nat := fastV (scB b).1.m (expV (scB b).1 (scB b).2) (sgnOf b.data.toList).1
open Classical in
noncomputable def rdF (b : ByteArray) : Option (Nat × Nat) :=
 if b.size <= 262144 /\ (numF b.data.toList = true -> b.size <= 64 -> Fast b (scB b).1 (scB b).2) then some ((readV b.data.toList (fsV b)).1, (readV b.data.toList (fsV b)).2.toNat) else none
theorem readV_nn (l : List UInt8) (V : Nat) : 0 <= (readV l V).2 := by
 unfold readV
 split
 ·decide
 split
 ·decide
 split
 ·decide
 split
 ·decide
 split
 ·decide
 split <;> simp
theorem rdF_ok (gl : GL) : RdOK rdF gl := by
 intro t x e ht h g
 unfold rdF at ht
 split at ht
 ·rename_i hc
  obtain ⟨h1, h2⟩ := hc
  simp only [Option.some.injEq, Prod.mk.injEq] at ht
  obtain ⟨rfl, rfl⟩ := ht
  rw [Int.toNat_of_nonneg (readV_nn _ _)]
  refine ok260' (V := fsV t) g (by omega) fun q1 q2 => ?_
  have f := h2 q1 q2
  exact ⟨none, .inl rfl, fun R r => ok323f f.t f.tr f.e1 f.e2 f.x r⟩
 ·cases ht
def fDg (D : List UInt8) : RS := D.foldl (fun s c => stepD s (dgt c)) RS0
theorem fDg_ok : ∀ (D : List UInt8) (s : RS), (∀ c ∈ D, isD c = true) -> s.nm + D.length <= 19 -> s.nd = s.nm -> s.m < 10 ^ s.nm -> s.tr = false -> s.dot = false ->
  (fun q : RS => q.nd = q.nm /\ q.nm <= s.nm + D.length /\ q.m < 10 ^ q.nm /\ q.tr = false /\ q.dot = false) (D.foldl (fun s c => stepD s (dgt c)) s)
 | [], s, _, _, h1, h2, h3, h4 => ⟨h1, by simp, h2, h3, h4⟩
 | c :: D, s, hD, hl, h1, h2, h3, h4 => by
  have hc := isD_iff.1 (hD c (by simp))
  have hd : dgt c <= 9 := by unfold dgt; omega
  simp only [List.length_cons] at hl
  rw [List.foldl_cons]
  have hs : (fun q : RS => q.nd = q.nm /\ q.nm <= s.nm + 1 /\ q.m < 10 ^ q.nm /\ q.tr = false /\ q.dot = false) (stepD s (dgt c)) := by
   unfold stepD
   split
   ·exact ⟨h1, by simp, h2, h3, h4⟩
   ·rw [if_pos (by omega)]
    refine ⟨by show s.nd + 1 = s.nm + 1; omega, Nat.le_refl _, ?_, h3, h4⟩
    show s.m * 10 + dgt c < 10 ^ (s.nm + 1)
    rw [Nat.pow_succ]; omega
  obtain ⟨k1, k2, k3, k4, k5⟩ := hs
  obtain ⟨j1, j2, j3, j4, j5⟩ := fDg_ok D (stepD s (dgt c)) (fun d hd => hD d (by simp [hd])) (by omega) k1 k3 k4 k5
  exact ⟨j1, by simp only [List.length_cons]; omega, j3, j4, j5⟩
theorem le_shift (k : Nat) {m n : Nat} (h : m <= n) : m * 2 ^ k <= n * 2 ^ k := Nat.mul_le_mul_right _ h
theorem le_mulpow (a : Nat) {i j : Nat} (h : i <= j) : a * 2 ^ i <= a * 2 ^ j := Nat.mul_le_mul_left _ (Nat.pow_le_pow_right (by decide) h)
theorem near_fin {m : Nat} (ng : Bool) (hm : m < 2 ^ 53) : isInf (absM (if ng then Op.negFloat .f64 (FloatKind.f64.nearest (m : Int)) else FloatKind.f64.nearest (m : Int))) = false := by
 have hk := key_exact (s := false) (m := m) (k := 0) (i := 0) hm (by decide) (by decide)
 rw [Nat.pow_zero, Nat.mul_one, show ((0 : Int) - ((0 : Nat) : Int)) = 0 by decide, <- int_near] at hk
 obtain ⟨hk, hn⟩ := hk
 generalize hx : (if ng then Op.negFloat .f64 (FloatKind.f64.nearest (m : Int)) else FloatKind.f64.nearest (m : Int)) = x
 have hxk : (key x).natAbs = (Ieee.signed false m (0 + 1074 : Int).toNat).natAbs /\ isNaN x = false := by
  rw [<- hx]
  cases ng
  ·rw [if_neg (by decide)]; exact ⟨by rw [hk], hn⟩
  ·rw [if_pos rfl]
   exact ⟨by rw [show Op.negFloat .f64 (FloatKind.f64.nearest (m : Int)) = negM (FloatKind.f64.nearest (m : Int)) from rfl, key_neg, Int.natAbs_neg, hk], by rw [<- hn]; exact nan_neg _⟩
 unfold isInf
 rw [order_gt (by rw [absM_nan]; exact hxk.2) (by decide), key_abs, hxk.1]
 refine decide_eq_false ?_
 rw [signed_shift]
 have hmax : key MAXF = ((9007199254740991 * 2 ^ 2045 : Nat) : Int) := by decide +kernel
 rw [hmax]
 have h1 := le_shift 1074 (show m <= 9007199254740991 by omega)
 have h2 := le_mulpow 9007199254740991 (show 1074 <= 2045 by decide)
 have e : (0 + 1074 : Int).toNat = 1074 := by decide
 rw [e, if_neg (by decide), Int.natAbs_natCast]
 generalize m * 2 ^ 1074 = a at *
 generalize 9007199254740991 * 2 ^ 1074 = b at *
 generalize 9007199254740991 * 2 ^ 2045 = c at *
 omega
theorem dgN_all : ∀ D : List UInt8, (∀ c ∈ D, isD c = true) -> dgN D = D.length
 | [], _ => rfl
 | c :: D, h => by
  have ih := dgN_all D fun d hd => h d (by simp [hd])
  unfold dgN at ih ⊢
  rw [List.takeWhile_cons, if_pos (h c (by simp)), List.length_cons, List.length_cons, ih]
theorem int_num {D : List UInt8} (ng : Bool) (hD : ∀ c ∈ D, isD c = true) (h0 : D ≠ []) (hl : D.length <= 15) {b : ByteArray} (hb : b.data.toList = (if ng then [45] else []) ++ D) : ∃ v, rdF b = some (v, 0) := by
 obtain ⟨a, r, hDr⟩ := List.exists_cons_of_ne_nil h0
 have ha : isD a = true := hD a (by rw [hDr]; simp)
 have ha2 := isD_iff.1 ha
 have na43 : a ≠ 43 := fun e => by subst e; exact absurd ha2 (by decide)
 have na45 : a ≠ 45 := fun e => by subst e; exact absurd ha2 (by decide)
 have hsg : (sgnOf b.data.toList) = (ng, if ng then 1 else 0) := by
  rw [hb, hDr]
  cases ng
  ·simp [sgnOf, na43, na45]
  ·simp [sgnOf]
 have hdr : dropS b.data.toList = D := by
  rw [hb]
  cases ng
  ·rw [hDr]; simp [dropS, na43, na45]
  ·simp [dropS]
 have hdn : dgN D = D.length := by
  exact dgN_all D hD
 have hnum : numF b.data.toList = true := by
  unfold numF
  rw [hdr, hdn, if_neg (by rw [hDr]; simp), List.drop_length]
  rfl
 have hsz : b.size = b.data.toList.length := rfl
 have hlen : b.data.toList.length <= 16 := by
  rw [hb, List.length_append]
  cases ng <;> simp <;> omega
 have hsc : scB b = (fDg D, []) := by
  unfold scB
  rw [drop_sgn, hdr]
  have := scan_app D RS0 [] hD
  rw [List.append_nil] at this
  rw [this]; rfl
 obtain ⟨q1, q2, q3, q4, q5⟩ := fDg_ok D RS0 hD (by show 0 + D.length <= 19; omega) rfl (by decide) rfl rfl
 change (fDg D).nd = (fDg D).nm at q1
 change (fDg D).nm <= 0 + D.length at q2
 change (fDg D).m < 10 ^ (fDg D).nm at q3
 change (fDg D).tr = false at q4
 change (fDg D).dot = false at q5
 have hm : (fDg D).m < 1000000000000000 := by
  have := Nat.pow_le_pow_right (n := 10) (by decide) (show (fDg D).nm <= 15 by omega)
  omega
 have hex : expV (fDg D) [] = 0 := by
  unfold expV
  split
  ·rw [q5, if_neg (by decide)]; simp [eVal]; omega
  ·rfl
 have hxF : exactF (fDg D).m 0 ng = (if ng then Op.negFloat .f64 (FloatKind.f64.nearest ((fDg D).m : Int)) else FloatKind.f64.nearest ((fDg D).m : Int), true) := by
  unfold exactF
  rw [if_neg (by omega)]
  simp
 obtain ⟨st, rest, T⟩ := txt_of_num (s := b) (by omega) hnum
 have hst : (st, rest) = (fDg D, []) := by rw [<- hsc]; exact T.sc.symm
 obtain ⟨rfl, rfl⟩ := Prod.mk.inj hst
 have F : Fast b (fDg D) [] := ⟨T, q4, by rw [hex]; decide, by rw [hex]; decide, fun _ => by rw [hex, hsg, hxF]⟩
 have hV : fsV b = if (fDg D).m = 0 then (bits .or .u64 (sgnN ng : Int) 0).toNat else (if ng then Op.negFloat .f64 (FloatKind.f64.nearest ((fDg D).m : Int)) else FloatKind.f64.nearest ((fDg D).m : Int)) := by
  unfold fsV fastV
  rw [hsc]
  show (if (fDg D).m = 0 then _ else (exactF (fDg D).m (expV (fDg D) []) _).1) = _
  rw [hex, hsg, hxF]
 have hfin : isInf (absM (fsV b)) = false := by
  rw [hV]
  split
  ·cases ng <;> decide +kernel
  ·exact near_fin ng (by omega)
 have n1 : b.data.toList ≠ [78, 97, 78] /\ b.data.toList ≠ [73, 78, 70] /\ b.data.toList ≠ [45, 73, 78, 70] := by
  rw [hb, hDr]
  cases ng
  ·refine ⟨fun e => ?_, fun e => ?_, fun e => ?_⟩
   ·have : a = 78 := (List.cons.inj e).1
    rw [this] at ha2; exact absurd ha2 (by decide)
   ·have : a = 73 := (List.cons.inj e).1
    rw [this] at ha2; exact absurd ha2 (by decide)
   ·have : a = 45 := (List.cons.inj e).1
    rw [this] at ha2; exact absurd ha2 (by decide)
  ·refine ⟨fun e => ?_, fun e => ?_, fun e => ?_⟩
   ·have : (45 : UInt8) = 78 := (List.cons.inj e).1
    exact absurd this (by decide)
   ·have : (45 : UInt8) = 73 := (List.cons.inj e).1
    exact absurd this (by decide)
   ·have : a = 73 := (List.cons.inj (List.cons.inj e).2).1
    rw [this] at ha2; exact absurd ha2 (by decide)
 have hr : readV b.data.toList (fsV b) = (fsV b, 0) := by
  unfold readV
  rw [if_neg n1.1, if_neg n1.2.1, if_neg n1.2.2, if_neg (by rw [hnum]; decide), if_neg (by omega), if_neg (by rw [hfin]; decide)]
 refine ⟨fsV b, ?_⟩
 unfold rdF
 rw [if_pos ⟨by omega, fun _ _ => by rw [hsc]; exact F⟩, hr]
 rfl
theorem dig_isD {c : UInt8} (h : G.digt c.toNat = true) : isD c = true := isD_iff.2 (by simpa [G.digt] using h)
theorem idt_read (x : Int) (hx : x.natAbs <= 2147483648) : ∃ v, G.NumT rdF (G.idt x) v := by
 have hd : ∀ c ∈ G.dec x.natAbs, isD c = true := fun c hc => dig_isD (G.dec_all _ c hc)
 have hl := G.dec_len 9 x.natAbs (by omega)
 have e : G.idt x = (if decide (x < 0) then [45] else []) ++ G.dec x.natAbs := by
  unfold G.idt; split <;> simp [*]
 obtain ⟨v, hv⟩ := int_num (decide (x < 0)) hd (G.dec_ne _) (by omega) (b := G.mkB (G.idt x)) (by rw [<- e]; simp [G.mkB])
 refine ⟨v, .inl (G.idt_num x), fun b hb => ?_⟩
 have : b = G.mkB (G.idt x) := by
  apply ByteArray.ext; apply Array.ext'; rw [hb]; simp [G.mkB]
 rw [this]; exact hv
theorem dec_read (n : Nat) (hn : n <= 2147483648) : ∃ v, G.NumT rdF (G.dec n) v := by
 have := idt_read (n : Int) (by omega)
 have e : G.idt (n : Int) = G.dec n := by unfold G.idt; rw [if_neg (by omega)]; rfl
 rwa [e] at this
end Go.Proofs.YtlflalecmhgmjaaGreatDoor.N
namespace Go.Proofs.YtlflalecmhgmjaaGreatDoor.G
def begA : List UInt8 := [103, 114, 97, 112, 104, 32, 91, 32, 110, 111, 100, 101, 32, 91, 32, 105, 100, 32, 53, 32, 93, 32, 101, 100, 103, 101, 32, 91, 32, 115, 111, 117, 114, 99, 101, 32, 53, 32, 116, 97, 114, 103, 101, 116, 32, 53, 32, 93, 32, 93]
def begB2 : List UInt8 := [103, 114, 97, 112, 104, 32, 91, 32, 110, 111, 100, 101, 32, 91, 32, 93, 32, 93]
section
variable {s : ByteArray} {rd : ByteArray -> Option (Nat × Nat)} {cl : Nat -> Nat}
theorem whole5 : whole [53] = some 5 := by decide
theorem read_begA {x : Nat} (h5 : NumT rd [53] x) (ht : s.data.toList = begA) : read rd cl s = .ok ⟨1, false, [(0, 0)], [], [], []⟩ := by
 have hsz : s.size = 50 := by rw [size_len, ht]; rfl
 have a0 : At s 0 ([] ++ (kGraph ++ ([32] ++ 91 :: ([32] ++ (kNode ++ ([32] ++ 91 :: ([32] ++ (kId ++ ([32] ++ ([53] ++ ([32] ++ 93 :: ([32] ++ (kEdge ++ ([32] ++ 91 :: ([32] ++ (kSource ++ ([32] ++ ([53] ++ ([32] ++ (kTarget ++ ([32] ++ ([53] ++ ([32] ++ 93 :: ([32] ++ 93 :: [])))))))))))))))))))))))) := by
  have := At.start s; rw [ht] at this; exact this
 let z : Tok := ⟨0, 0, noB, 0⟩
 have key0 : BigP s rd cl .top 0 start fun e l r => ∃ (u u' : Tok) (i : Nat), u.l = [53] /\ u'.l = [53] /\ r = ⟨i, 1, false, true, [(5, 0)], [noB], [(0, 0)], [one64], false, false, false, [u, u']⟩ := by
  refine any_open (σ := start) (σ1 := fun j => { start with i := j, graph := true }) (l2 := some (.graph false)) (l' := .top) a0 .nil (wdGraph _ (sep32 _)) bl1 (by decide) (fun t j e => by simp [key, e, start, must]) (fun j => rfl) fun j0 j1 lt1 a => ?_
  let σ1 : Nat -> Rd := fun j => ⟨j, 1, false, true, [], [noB], [(0, 0)], [], false, false, false, []⟩
  refine any_open (σ1 := σ1) (l2 := some (.node 0 false false false)) (l' := .graph false) a bl1 (wdNode _ (sep32 _)) bl1 (by decide) (fun t j e => (key_node e (by show 0 < 1024; omega)).trans rfl) (fun j => rfl) fun j0 j2 lt2 a => ?_
  refine any_num (x := .id 0) (l' := .node 0 true false false) (σ1 := σ1) a bl1 (wdId _ (sep32 _)) bl1 h5 (sep32 _).numb (sep32 _).word (fun t j e => by simp [key, e, must]; rfl) (fun j => rfl) (.inr rfl) fun u j0 j3 u1 u2 u3 lt3 a => ?_
  let σ2 : Nat -> Rd := fun j => ⟨j, 1, false, true, [(5, 0)], [noB], [(0, 0)], [], false, false, false, []⟩
  refine ⟨σ2 j3, by simp only [take, u1, whole5]; rfl, rfl, ?_⟩
  refine any_close a bl1 rfl fun e j4 lt4 a => ⟨σ2 j4, rfl, ?_, a.1, ?_⟩
  ·have q3 : j2 < j3 := lt3
   have q4 : j3 < j4 := lt4
   show j2 < j4
   omega
  let σ3 : List Tok -> Nat -> Rd := fun l j => ⟨j, 1, false, true, [(5, 0)], [noB], [(0, 0)], [one64], false, false, false, l⟩
  have a : At s (σ2 j4).i ([32] ++ (kEdge ++ ([32] ++ 91 :: ([32] ++ (kSource ++ ([32] ++ ([53] ++ ([32] ++ (kTarget ++ ([32] ++ ([53] ++ ([32] ++ 93 :: ([32] ++ 93 :: []))))))))))))) := a
  refine any_open (σ1 := σ3 [z, z]) (l2 := some (.edge 0 false false false)) (l' := .graph false) a bl1 (wdEdge _ (sep32 _)) bl1 (by decide) (fun t j e => (key_edge e (by show 0 / 2 < 3072; omega)).trans rfl) (fun j => rfl) fun j0 j5 lt5 a => ?_
  refine any_num (x := .fin 0) (l' := .edge 0 true false false) (σ1 := σ3 [z, z]) a bl1 (wdSource _ (sep32 _)) bl1 h5 (sep32 _).numb (sep32 _).word (fun t j e => by simp [key, e, must]; rfl) (fun j => rfl) (.inr rfl) fun u j0 j6 v1 v2 v3 lt6 a => ?_
  refine ⟨σ3 [u, z] j6, by simp only [take, v1, whole5]; rfl, rfl, ?_⟩
  refine any_num (x := .fin 1) (l' := .edge 0 true true false) (σ1 := σ3 [u, z]) a bl1 (wdTarget _ (sep32 _)) bl1 h5 (sep32 _).numb (sep32 _).word (fun t j e => by simp [key, e, kSource, kTarget, must]; rfl) (fun j => rfl) (.inr rfl) fun u' j0 j7 w1 w2 w3 lt7 a => ?_
  refine ⟨σ3 [u, u'] j7, by simp only [take, w1, whole5]; rfl, rfl, ?_⟩
  refine any_close a bl1 rfl fun e j8 lt8 a => ⟨σ3 [u, u'] j8, rfl, ?_, a.1, ?_⟩
  ·have q6 : j5 < j6 := lt6
   have q7 : j6 < j7 := lt7
   have q8 : j7 < j8 := lt8
   show j5 < j8
   omega
  have a : At s (σ3 [u, u'] j8).i ([32] ++ 93 :: []) := a
  refine any_close a bl1 rfl fun e j9 lt9 a => ⟨σ3 [u, u'] j9, rfl, ?_, a.1, ?_⟩
  ·have q2 : j1 < j2 := lt2
   have q3 : j2 < j3 := lt3
   have q4 : j3 < j4 := lt4
   have q5 : j4 < j5 := lt5
   have q6 : j5 < j6 := lt6
   have q7 : j6 < j7 := lt7
   have q8 : j7 < j8 := lt8
   have q9 : j8 < j9 := lt9
   show j1 < j9
   omega
  exact ⟨_, _, _, big_top .nil a, u, u', s.size, v1, w1, rfl⟩
 obtain ⟨e, l, r, hb, u, u', i, e1, e2, rfl⟩ := key0
 unfold read
 rw [must_t (decide_eq_true (by omega)), hb (s.size + 1) (by simp [start])]
 simp only [must, Er.bind]
 have f5 : ∀ t : Tok, t.l = [53] -> endOf [(5, 0)] t = .ok 0 := by
  intro t ht
  unfold endOf
  rw [ht, whole5]; rfl
 simp only [edges, f5 u e1, f5 u' e2, Er.bind]
 rfl
theorem read_begB (ht : s.data.toList = begB2) : read rd cl s = .no (15, 14) := by
 have hsz : s.size = 18 := by rw [size_len, ht]; rfl
 have a0 : At s 0 ([] ++ (kGraph ++ ([32] ++ 91 :: ([32] ++ (kNode ++ ([32] ++ 91 :: ([32] ++ 93 :: ([32] ++ 93 :: [])))))))) := by
  have := At.start s; rw [ht] at this; exact this
 obtain ⟨t1, n1, k1, l1, a1⟩ := next_word .nil (wdGraph _ (sep32 _)) a0
 obtain ⟨n2, a2⟩ := next_open bl1 a1
 obtain ⟨t3, n3, k3, l3, a3⟩ := next_word bl1 (wdNode _ (sep32 _)) a2
 obtain ⟨n4, a4⟩ := next_open bl1 a3
 obtain ⟨n5, a5⟩ := next_close bl1 a4
 simp only [List.length_nil, List.length_singleton, Nat.add_zero, Nat.zero_add, show kGraph.length = 5 from rfl, show kNode.length = 4 from rfl] at n1 n2 n3 n4 n5
 have k1' : ∀ r : Rd, r.graph = false -> key .top t1 r = .ok (.list (.graph false), .top, { r with graph := true }) := by
  intro r hr
  simp [key, l1, hr, must]
 have in3 : ∀ n (r : Rd), r.i = 14 -> list s rd cl (n + 1) (.node 0 false false false) 2 r = .ok (15, .node 0 false false false, { r with i := 16 }) := by
  intro n r hr
  rw [list, hr, n5]
  simp [Er.bind, isTop]
 have in2 : ∀ n (r : Rd), r.i = 7 -> r.n = 0 -> list s rd cl (n + 2) (.graph false) 1 r = .no (15, 14) := by
  intro n r hr hn
  rw [list, hr, n3]
  simp only [Er.bind, k3, isTop]
  rw [if_neg (by simp), must_t (by simp), key_node l3 (by show r.n < 1024; omega)]
  simp only []
  unfold value
  simp only [n4, Er.bind]
  simp only [valued, Tk.kind]
  rw [if_neg (by simp), if_neg (by simp), if_neg (by simp)]
  simp only []
  rw [must_t (by simp), must_t (by simp), if_pos trivial, hn, in3 n _ rfl]
  simp [Er.bind, behind, must]
 unfold read
 rw [must_t (decide_eq_true (by omega)), hsz, list]
 have i0 : start.i = 0 := rfl
 rw [i0, n1]
 simp only [Er.bind, k1, isTop]
 rw [if_neg (by simp), must_t (by simp), k1' _ rfl]
 simp only []
 unfold value
 simp only [n2, Er.bind]
 simp only [valued, Tk.kind]
 rw [if_neg (by simp), if_neg (by simp), if_neg (by simp)]
 simp only []
 rw [must_t (by simp), must_t (by simp), if_pos trivial, in2 16 _ rfl rfl]
end
end Go.Proofs.YtlflalecmhgmjaaGreatDoor.G
namespace Go.Proofs.YtlflalecmhgmjaaGreatDoor.N
open Go.Proofs.YtlflalecmhgmjaaGreatDoor
open Go.X
set_option maxRecDepth 100000
set_option maxHeartbeats 2000000
def S26  (h : Heap) (R : Value -> Heap -> Prop) : Prop :=
 callX Tryz.prog 23 #[.string (⟨#[103, 114, 97, 112, 104, 32, 91, 32, 110, 111, 100, 101, 32, 91, 32, 105, 100, 32, 53, 32, 93, 32, 101, 100, 103, 101, 32, 91, 32, 115, 111, 117, 114, 99, 101, 32, 53, 32, 116, 97, 114, 103, 101, 116, 32, 53, 32, 93, 32, 93]⟩ : ByteArray)] h [] fun X a =>
 ∃ e : Int, ∃ (i : Option Addr) (f m : Nat), ∃ g : Bool, ∃ (j : Option Addr) (q n : Nat), ∃ (k : Option Addr) (r o : Nat), ∃ (l : Option Addr) (s p : Nat), ∃ L : Int, ∃ O : Int, X = .tuple #[.agg #[.int .i64 e, .slice i f m, .bool g, .slice j q n, .slice k r o, .slice l s p], .int .i64 L, .int .i64 O] /\
 let S : Heap := a.push (.cells #[.int .i64 0, .slice none 0 0, .bool false, .slice none 0 0, .slice none 0 0, .slice none 0 0] 29)
 let T : Heap := hset (hset (hset (hset (hset (hset S a.size 0 (.int .i64 e)) a.size (0 + 1) (.slice i f m)) a.size ((0 + 1) + 1) (.bool g)) a.size (((0 + 1) + 1) + 1) (.slice j q n)) a.size ((((0 + 1) + 1) + 1) + 1) (.slice k r o)) a.size (((((0 + 1) + 1) + 1) + 1) + 1) (.slice l s p)
 callX Tryz.prog 23 #[.string (⟨#[103, 114, 97, 112, 104, 32, 91, 32, 110, 111, 100, 101, 32, 91, 32, 93, 32, 93]⟩ : ByteArray)] T [a.size] fun Y b =>
 ∃ w : Int, ∃ (z : Option Addr) (H D : Nat), ∃ x : Bool, ∃ (A : Option Addr) (I E : Nat), ∃ (B : Option Addr) (J F : Nat), ∃ (C : Option Addr) (K G : Nat), ∃ M : Int, ∃ P : Int, Y = .tuple #[.agg #[.int .i64 w, .slice z H D, .bool x, .slice A I E, .slice B J F, .slice C K G], .int .i64 M, .int .i64 P] /\
 let U : Heap := b.push (.cells #[.int .i64 0, .slice none 0 0, .bool false, .slice none 0 0, .slice none 0 0, .slice none 0 0] 29)
 let V : Heap := hset (hset (hset (hset (hset (hset U b.size 0 (.int .i64 w)) b.size (0 + 1) (.slice z H D)) b.size ((0 + 1) + 1) (.bool x)) b.size (((0 + 1) + 1) + 1) (.slice A I E)) b.size ((((0 + 1) + 1) + 1) + 1) (.slice B J F)) b.size (((((0 + 1) + 1) + 1) + 1) + 1) (.slice C K G)
 callX Tryz.prog 22 #[.agg #[.int .i64 e, .slice i f m, .bool g, .slice j q n, .slice k r o, .slice l s p]] V [b.size, a.size] fun Z d =>
 ∃ y : ByteArray, ∃ N : Int, Z = .tuple #[.string y, .int .i64 N] /\
 let c := fun (Q : Heap) =>
  (R (.bool false) Q)
 cnd (e == (1 : Int))
  (cnd (((f : Nat) : Int) == (1 : Int))
   (cnd (L == (0 : Int))
    (cnd (O == (0 : Int))
     (cnd (M == (15 : Int))
      (cnd (P == (14 : Int))
       (cnd (decide (((y.size : Nat) : Int) > (40 : Int)))
        (cnd (N == (0 : Int))
         (callX Tryz.prog 25 #[.agg #[.int .i64 e, .slice i f m, .bool g, .slice j q n, .slice k r o, .slice l s p]] d [b.size, a.size] fun a0 t =>
         ∃ u : Bool, a0 = .bool u /\
         cnd u
          (callX Tryz.prog 24 #[.agg #[.int .i64 e, .slice i f m, .bool g, .slice j q n, .slice k r o, .slice l s p], .agg #[.int .i64 e, .slice i f m, .bool g, .slice j q n, .slice k r o, .slice l s p]] t [b.size, a.size] fun a1 W =>
          ∃ v : Bool, a1 = .bool v /\
          R (.bool v) W)
          (c t))
         (c d))
        (c d))
       (c d))
      (c d))
     (c d))
    (c d))
   (c d))
  (c d)
theorem calls26 {h : Heap} {R : Value -> Heap -> Prop}  (H : S26  h R) : CallsH Tryz.prog 26 #[] h R := by
 have e : S26  h R = FX (envX [1, 4] 69) { loops := [], joins := [], blocks := [], draws := [] } Tryz.f26 (Tryz.f26.body.getD .skip) [] h R := by kernel_rfl
 exact calls_of_FX (envX_ok _ _) Tryz.func26 (by kernel_rfl) (by kernel_rfl) (by kernel_rfl) (e ▸ H)
def S10 (labelsA : Option Addr) (labelsL labelsC : Nat) (h : Heap) (R : Value -> Heap -> Prop) : Prop :=
 callX Tryz.prog 26 #[] h [] fun W a =>
 ∃ w : Bool, W = .bool w /\
 cnd (!w)
  (R (.bool false) a)
  (cnd (decide (((labelsL : Nat) : Int) < (1 : Int)))
   (R (.bool true) a)
   (cnd (decide (((labelsL : Nat) : Int) > (60 : Int)))
    (R (.bool true) a)
    (let Q : Heap := a.push (.cells #[.int .i64 0, .slice none 0 0, .bool false, .slice none 0 0, .slice none 0 0, .slice none 0 0] 29)
    let S : Heap := hset (hset (hset (hset (hset (hset Q a.size 0 (.int .i64 ((labelsL : Nat) : Int))) a.size (0 + 1) (.slice none 0 0)) a.size ((0 + 1) + 1) (.bool false)) a.size (((0 + 1) + 1) + 1) (.slice labelsA labelsL labelsC)) a.size ((((0 + 1) + 1) + 1) + 1) (.slice none 0 0)) a.size (((((0 + 1) + 1) + 1) + 1) + 1) (.slice none 0 0)
    callX Tryz.prog 22 #[.agg #[.int .i64 ((labelsL : Nat) : Int), .slice none 0 0, .bool false, .slice labelsA labelsL labelsC, .slice none 0 0, .slice none 0 0]] S [a.size] fun X T =>
    ∃ r : ByteArray, ∃ t : Int, X = .tuple #[.string r, .int .i64 t] /\
    ∃ (k : List Value -> Heap -> Prop) (l : List Value -> Heap -> Nat), k [.bool true, .int .i64 0] T /\
    ∀ j : Bool, ∀ d : Int, ∀ c, k [.bool j, .int .i64 d] c ->
    cnd (decide (d < ((labelsL : Nat) : Int)))
     (cnd j
      (∃ b o, labelsA = some ⟨b, o, none⟩ /\ 0 <= d /\ d < (labelsL : Nat) /\ ∃ M : ByteArray, hcell c b (o + (Int.toNat d) * 1) = some (.string M) /\ callX Tryz.prog 32 #[.string M] c [a.size] fun Y u =>
      ∃ q : Bool, Y = .bool q /\
      k [.bool q, .int .i64 (IntKind.i64.wrap (d + (1 : Int)))] u /\ l [.bool q, .int .i64 (IntKind.i64.wrap (d + (1 : Int)))] u < l [.bool j, .int .i64 d] c)
      (k [.bool false, .int .i64 (IntKind.i64.wrap (d + (1 : Int)))] c /\ l [.bool false, .int .i64 (IntKind.i64.wrap (d + (1 : Int)))] c < l [.bool j, .int .i64 d] c))
     (cnd (!j)
      (cnd (t == (1 : Int))
       (cnd (r.toList == (⟨#[]⟩ : ByteArray).toList)
        (callX Tryz.prog 25 #[.agg #[.int .i64 ((labelsL : Nat) : Int), .slice none 0 0, .bool false, .slice labelsA labelsL labelsC, .slice none 0 0, .slice none 0 0]] c [a.size] fun Z U =>
        ∃ x : Bool, Z = .bool x /\
        R (.bool (!x)) U)
        (R (.bool false) c))
       (R (.bool false) c))
      (callX Tryz.prog 23 #[.string r] c [a.size] fun a0 g =>
      ∃ y : Int, ∃ (A : Option Addr) (H D : Nat), ∃ z : Bool, ∃ (s : Option Addr) (m E : Nat), ∃ (B : Option Addr) (I F : Nat), ∃ (C : Option Addr) (J G : Nat), ∃ K : Int, ∃ L : Int, a0 = .tuple #[.agg #[.int .i64 y, .slice A H D, .bool z, .slice s m E, .slice B I F, .slice C J G], .int .i64 K, .int .i64 L] /\
      let V : Heap := g.push (.cells #[.int .i64 0, .slice none 0 0, .bool false, .slice none 0 0, .slice none 0 0, .slice none 0 0] 29)
      let i : Heap := hset (hset (hset (hset (hset (hset V g.size 0 (.int .i64 y)) g.size (0 + 1) (.slice A H D)) g.size ((0 + 1) + 1) (.bool z)) g.size (((0 + 1) + 1) + 1) (.slice s m E)) g.size ((((0 + 1) + 1) + 1) + 1) (.slice B I F)) g.size (((((0 + 1) + 1) + 1) + 1) + 1) (.slice C J G)
      let p := fun (P : Heap) =>
       (R (.bool false) P)
      cnd (t != (0 : Int))
       (p i)
       (cnd (K != (0 : Int))
        (p i)
        (cnd (L != (0 : Int))
         (p i)
         (cnd (((m : Nat) : Int) != ((labelsL : Nat) : Int))
          (R (.bool false) i)
          (∃ (n : List Value -> Heap -> Prop) (v : List Value -> Heap -> Nat), n [.int .i64 0] i /\
          ∀ e : Int, ∀ f, n [.int .i64 e] f ->
          cnd (decide (e < ((labelsL : Nat) : Int)))
           (∃ b2 o2, s = some ⟨b2, o2, none⟩ /\ 0 <= e /\ e < (m : Nat) /\ ∃ N : ByteArray, hcell f b2 (o2 + (Int.toNat e) * 1) = some (.string N) /\ ∃ b3 o3, labelsA = some ⟨b3, o3, none⟩ /\ 0 <= e /\ e < (labelsL : Nat) /\ ∃ O : ByteArray, hcell f b3 (o3 + (Int.toNat e) * 1) = some (.string O) /\ cnd (!(N.toList == O.toList))
            (R (.bool false) f)
            (n [.int .i64 (IntKind.i64.wrap (e + (1 : Int)))] f /\ v [.int .i64 (IntKind.i64.wrap (e + (1 : Int)))] f < v [.int .i64 e] f))
           (R (.bool true) f))))))))))
theorem calls10 {h : Heap} {R : Value -> Heap -> Prop} (labelsA : Option Addr) (labelsL labelsC : Nat) (H : S10 labelsA labelsL labelsC h R) : CallsH Tryz.prog 10 #[.slice labelsA labelsL labelsC] h R := by
 have e : S10 labelsA labelsL labelsC h R = FX (envX [3, 8] 99) { loops := [(0, ⟨[0, 3, 4, 5], [6, 7], [3], []⟩), (2, ⟨[0, 8], [11], [8], []⟩)], joins := [], blocks := [], draws := [(20, ⟨10, false⟩)] } Tryz.f10 (Tryz.f10.body.getD .skip) [.slice labelsA labelsL labelsC] h R := by kernel_rfl
 exact calls_of_FX (envX_ok _ _) Tryz.func10 (by kernel_rfl) (by kernel_rfl) (by kernel_rfl) (e ▸ H)
end Go.Proofs.YtlflalecmhgmjaaGreatDoor.N
namespace Go.Proofs.YtlflalecmhgmjaaGreatDoor.N
open Go.Proofs.YtlflalecmhgmjaaGreatDoor
open Go.X
open Go.Proofs
set_option maxRecDepth 100000
def mdR (dc : G.Dc) : MD := ⟨(dc.n : Int), dc.dir, dc.edges.map pr, dc.labels, dc.spots, dc.weights⟩
theorem dec5 : G.dec 5 = [53] := by rw [G.dec]; rfl
theorem dec0 : G.dec 0 = [48] := by rw [G.dec]; rfl
def tx0 : Nat -> List UInt8 := fun _ => []
def dc5 : G.Dc := ⟨1, false, [(0, 0)], [], [], []⟩
theorem wr5 : (G.wr tx0 dc5).length = 84 := by
 simp [G.wr, G.linesT, G.docL, dc5, G.nodesL, G.nodeL, G.edgesL, G.edgeL, G.opn, G.kv, G.cls, G.ind, dec0, G.kGraph, G.kDirected, G.kNode, G.kId, G.kEdge, G.kSource, G.kTarget]
theorem hd1 {gl : GL} {h : Heap} (g : Gl gl h) : CallsH Tryz.prog 26 #[] h fun v h' => v = .bool true /\ Fr [] h h' := by
 apply calls26
 unfold S26
 obtain ⟨x5, h5⟩ := dec_read 5 (by decide)
 rw [dec5] at h5
 have rA : G.read rdF cleanM (G.mkB G.begA) = .ok dc5 := G.read_begA h5 (mkBl _)
 have rB : G.read rdF cleanM (G.mkB G.begB2) = .no (15, 14) := G.read_begB (mkBl _)
 refine callX_ofR (R := rdR gl (G.mkB G.begA) rdF cleanM h) [] (ok23 (s := G.mkB G.begA) (rdF_ok gl) ok_clean ok269 g (by decide) (by rw [rA]; simp)) (by simp) ?_ ?_
 ·rintro v h' (⟨dc, aD, aL, aS, aW, nD, cD, nL, cL, nS, cS, nW, cW, _, _, q⟩ | ⟨f, _, _, q⟩)
  ·exact q.fr
  ·exact q
 rintro v h1 (⟨dc, aD, aL, aS, aW, nD, cD, nL, cL, nS, cS, nW, cW, e, rfl, q⟩ | ⟨f, e, _, q⟩)
 rotate_left
 ·rw [rA] at e
  cases e
 rw [rA] at e
 obtain rfl : dc5 = dc := by injection e
 refine ⟨1, aD, nD, cD, false, aL, nL, cL, aS, nS, cS, aW, nW, cW, 0, 0, rfl, ?_⟩
 intro h2 h3
 have f3 : Fr [] h1 h3 := ((((((Fr.push h1 _).hsetL (Nat.le_refl _)).hsetL (Nat.le_refl _)).hsetL (Nat.le_refl _)).hsetL (Nat.le_refl _)).hsetL (Nat.le_refl _)).hsetL (Nat.le_refl _)
 have s3 : h1.size < h3.size := by simp [h3, h2]
 clear_value h3
 have Q3 : Sq h [Ck.glob gl] h3 (dC gl dc5 aD aL aS aW nD cD nL cL nS cS nW cW) := q.gr f3
 have g3 : Gl gl h3 := Q3.sy.ok (k := 4) (c := Ck.glob gl) rfl
 refine callX_ofR (R := rdR gl (G.mkB G.begB2) rdF cleanM h3) [] (ok23 (s := G.mkB G.begB2) (rdF_ok gl) ok_clean ok269 g3 (by decide) (by rw [rB]; simp)) (by simp) ?_ ?_
 ·rintro v h' (⟨dc, aD, aL, aS, aW, nD, cD, nL, cL, nS, cS, nW, cW, _, _, q⟩ | ⟨f, _, _, q⟩)
  ·exact q.fr
  ·exact q
 rintro v h4 (⟨dc, _, _, _, _, _, _, _, _, _, _, _, _, e, rfl, q⟩ | ⟨f, e, rfl, f4⟩)
 ·rw [rB] at e; cases e
 rw [rB] at e
 obtain rfl : ((15, 14) : G.F) = f := by injection e
 refine ⟨0, none, 0, 0, false, none, 0, 0, none, 0, 0, none, 0, 0, 15, 14, rfl, ?_⟩
 intro h5 h6
 have f6 : Fr [] h4 h6 := ((((((Fr.push h4 _).hsetL (Nat.le_refl _)).hsetL (Nat.le_refl _)).hsetL (Nat.le_refl _)).hsetL (Nat.le_refl _)).hsetL (Nat.le_refl _)).hsetL (Nat.le_refl _)
 clear_value h6
 have Q6 := (Q3.gr f4).gr f6
 have l0 := Q6.sy.lenS 0 rfl
 have Q7 : Sq h [Ck.glob gl] h6 (dV gl aD nD cD (dc5.edges.map pr) aL nL cL dc5.labels aS nS cS dc5.spots aW nW cW dc5.weights) := by
  have Y := ((((Q6.sy.turn 0 rfl To.slvw).turn 1 rfl To.slvw).turn 2 rfl To.slvw).turn 3 rfl To.slvw).pick [4, 0, 1, 2, 3] rfl
  refine ⟨Y, fun x hx => ?_⟩
  have hx : x ∈ glB gl ++ (rdOf aD nD ++ (rdOf aL nL ++ (rdOf aS nS ++ rdOf aW nW))) := by simpa [rds, dV, Ck.vw, Ck.glob] using hx
  simp only [List.mem_append] at hx
  rcases hx with hx | hx | hx | hx | hx
  ·exact .inl (by simpa [rds, Ck.glob] using hx)
  ·exact .inr (Q6.sy.ow 0 _ rfl x (rdOf_sub hx))
  ·exact .inr (Q6.sy.ow 1 _ rfl x (rdOf_sub hx))
  ·exact .inr (Q6.sy.ow 2 _ rfl x (rdOf_sub hx))
  ·exact .inr (Q6.sy.ow 3 _ rfl x (rdOf_sub hx))
 have eD : toDc 1 false (dc5.edges.map pr) dc5.labels dc5.spots dc5.weights = dc5 := rfl
 have eB : docB 1 (dc5.edges.map pr) dc5.labels dc5.spots dc5.weights = true := by decide
 have eW : wrV tx0 1 false (dc5.edges.map pr) dc5.labels dc5.spots dc5.weights = (G.wr tx0 dc5, 0) := by
  unfold wrV
  rw [eB, if_neg (by decide), eD, wr5, if_neg (by decide)]
 refine callX_ofR (R := fun v h' => v = .tuple #[.string (G.mkB (G.wr tx0 dc5)), .int .i64 0] /\ Fr [] h6 h') [] ?_ (by simp) (fun _ _ r => r.2) ?_
 ·have := ok22 (tx := tx0) (n := 1) (dir := false) Q7.hp (by simp [dc5]) (by decide) (by simp [dc5]) (by simp [dc5])
  rw [eW] at this; exact this
 rintro v h7 ⟨rfl, f7⟩
 refine ⟨_, 0, rfl, ?_⟩
 intro K
 have nD1 : nD = 1 := l0
 subst nD1
 have F7 : Fr [] h h7 := Q7.fr.trans f7
 have Q8 := Q7.gr f7
 refine cnd_t rfl (cnd_t rfl (cnd_t rfl (cnd_t rfl (cnd_t rfl (cnd_t rfl (cnd_t ?_ (cnd_t rfl ?_)))))))
 ·rw [mkB_sz, wr5]; decide
 refine callX_ofR (R := fun v h' => v = .bool true /\ Fr [] h7 h') [] ?_ (by simp) (fun _ _ r => r.2) ?_
 ·refine (okDoc (n := 1) (es := dc5.edges.map pr) (dr := false) (ls := dc5.labels) (ss := dc5.spots) (ws := dc5.weights) (R := fun r => r = true) (by simp [dc5]) (by decide) eB h7 _ _ _ _ _ _ _ _ _ _ _ _ (Q8.pick [1, 2, 3, 4] rfl).hp).mono ?_
  rintro v h' ⟨r, Y, rfl, rfl⟩
  exact ⟨rfl, Y.fr⟩
 rintro v h8 ⟨rfl, f8⟩
 have Q9 := Q8.gr f8
 refine ⟨true, rfl, cnd_t rfl ?_⟩
 let t : MDs := ⟨aD, 1, cD, aL, nL, cL, aS, nS, cS, aW, nW, cW⟩
 have Hd : Hp h8 ((mdR dc5).vw t ++ (mdR dc5).vw t) := by
  have P := (Q9.pick [1, 2, 3, 4] rfl).hp
  refine ⟨fun k c hk => ?_, fun i j c d _ hi hj x hx => ?_⟩
  ·rcases app_or hk with hk | ⟨_, hk⟩
   ·exact P.ok k c hk
   ·exact P.ok _ c hk
  ·have : c.own = [] := by
    have hm : c ∈ (mdR dc5).vw t ++ (mdR dc5).vw t := List.mem_of_getElem? hi
    simp only [MD.vw, List.mem_append, List.mem_cons, List.not_mem_nil, or_false] at hm
    rcases hm with (rfl | rfl | rfl | rfl) | rfl | rfl | rfl | rfl <;> rfl
   rw [this] at hx; cases hx
 refine callX_ofR (R := fun v h' => v = .bool true /\ Fr [] h8 h') [] ?_ (by simp) (fun _ _ r => r.2) ?_
 ·have := ok24 Hd (by decide)
  have es : sameB (mdR dc5) (mdR dc5) = true := by decide
  rw [es] at this; exact this
 rintro v h9 ⟨rfl, f9⟩
 exact ⟨true, rfl, rfl, (F7.trans f8).trans f9⟩
end Go.Proofs.YtlflalecmhgmjaaGreatDoor.N
namespace Go.Proofs.YtlflalecmhgmjaaGreatDoor.N
open Go.Proofs.YtlflalecmhgmjaaGreatDoor
open Go.X
set_option maxRecDepth 100000
set_option maxHeartbeats 2000000
def S32 (s : ByteArray) (h : Heap) (R : Value -> Heap -> Prop) : Prop :=
 cnd (decide (((s.size : Nat) : Int) > (256 : Int)))
  (R (.bool false) h)
  (∃ (c : List Value -> Heap -> Prop) (d : List Value -> Heap -> Nat), c [.int .i64 0] h /\
  ∀ a : Int, ∀ b, c [.int .i64 a] b ->
  cnd (decide (a < ((s.size : Nat) : Int)))
   (0 <= a /\ a < ((s.size : Nat) : Int) /\ ∃ e : UInt8, s[Int.toNat a]? = some e /\ cnd (decide (((UInt8.toNat e : Nat) : Int) < (32 : Int)))
    (R (.bool false) b)
    (0 <= a /\ a < ((s.size : Nat) : Int) /\ ∃ f : UInt8, s[Int.toNat a]? = some f /\ cnd (decide (((UInt8.toNat f : Nat) : Int) > (126 : Int)))
     (R (.bool false) b)
     (c [.int .i64 (IntKind.i64.wrap (a + (1 : Int)))] b /\ d [.int .i64 (IntKind.i64.wrap (a + (1 : Int)))] b < d [.int .i64 a] b)))
   (R (.bool true) b))
theorem calls32 {h : Heap} {R : Value -> Heap -> Prop} (s : ByteArray) (H : S32 s h R) : CallsH Tryz.prog 32 #[.string s] h R := by
 have e : S32 s h R = FX (envX [] 23) { loops := [(0, ⟨[0], [3], [], []⟩)], joins := [], blocks := [], draws := [] } Tryz.f32 (Tryz.f32.body.getD .skip) [.string s] h R := by kernel_rfl
 exact calls_of_FX (envX_ok _ _) Tryz.func32 (by kernel_rfl) (by kernel_rfl) (by kernel_rfl) (e ▸ H)
def Ok32 (s : ByteArray) (R : Bool -> Prop) : Prop :=
 ∀ (h : Heap), Hp h [] -> CallsH Tryz.prog 32 #[.string s] h fun v h' => ∃ (rV : Bool), Sy h [] h' [] /\ v = .bool rV /\ R rV
def T32 (s : ByteArray) (R : Bool -> Prop) : Prop :=
 cnd (decide (((s.size : Nat) : Int) > (256 : Int)))
  (R false)
  (∃ (b : Int -> Prop) (c : Int -> Nat), b 0 /\
  ∀ a : Int, b a ->
  cnd (decide (a < ((s.size : Nat) : Int)))
   (0 <= a /\ a < ((s.size : Nat) : Int) /\ ∃ d : UInt8, s[Int.toNat a]? = some d /\ cnd (decide (((UInt8.toNat d : Nat) : Int) < (32 : Int)))
    (R false)
    (0 <= a /\ a < ((s.size : Nat) : Int) /\ ∃ e : UInt8, s[Int.toNat a]? = some e /\ cnd (decide (((UInt8.toNat e : Nat) : Int) > (126 : Int)))
     (R false)
     (b (IntKind.i64.wrap (a + (1 : Int))) /\ c (IntKind.i64.wrap (a + (1 : Int))) < c a)))
   (R true))
theorem ok32 {s} {R : Bool -> Prop} (T : T32 s R) : Ok32 s R := by
 intro h  H
 have Y : Sy h [] h _ := Sy.startM H rfl
 apply calls32
 unfold S32
 unfold T32 at T
 refine cnd_imp T (fun T => ?_) (fun T => ?_)
 ·exact ⟨_, Y.pick [] rfl, rfl, T⟩
 ·obtain ⟨Iv, m, T0, T1⟩ := T
  obtain ⟨B, hB, YB⟩ := Y.cut [] [] rfl
  obtain ⟨JJ, hJJ⟩ : ∃ JJ : Nat -> List Value -> Heap -> Prop, JJ = (fun k lz h' => ∃ (i : Int), lz = [.int .i64 i] /\ Sy h [] h' ([] ++ B) /\ Iv i /\ m i = k) := ⟨_, rfl⟩
  refine ⟨fun lz h' => ∃ k, JJ k lz h', Lm JJ, ?_, ?_⟩
  ·subst hJJ hB
   exact ⟨_, _, rfl, YB, T0, rfl⟩
  ·clear YB T0 Y
   intro i hv hI
   obtain ⟨k, hI, hm⟩ := loopIn hI
   subst hJJ hB
   obtain ⟨i, e, Y, T, rfl⟩ := hI
   cases e
   replace T := T1 i T
   have Y : Sy _ _ _ [] := Y
   refine cnd_imp T (fun T => ?_) (fun T => ?_)
   ·obtain ⟨q_3, q_4, T⟩ := T
    refine ⟨q_3, q_4, ?_⟩
    obtain ⟨xc, hq, T⟩ := T
    refine ⟨xc, hq, ?_⟩
    refine cnd_imp T (fun T => ?_) (fun T => ?_)
    ·exact ⟨_, Y.pick [] rfl, rfl, T⟩
    ·obtain ⟨q, q_2, T⟩ := T
     refine ⟨q, q_2, ?_⟩
     obtain ⟨xc2, hq, T⟩ := T
     refine ⟨xc2, hq, ?_⟩
     refine cnd_imp T (fun T => ?_) (fun T => ?_)
     ·exact ⟨_, Y.pick [] rfl, rfl, T⟩
     ·exact loopBack hm ⟨_, rfl, Y.pick [] rfl, T.1, rfl⟩ T.2
   ·exact ⟨_, Y.pick [] rfl, rfl, T⟩
end Go.Proofs.YtlflalecmhgmjaaGreatDoor.N
namespace Go.Proofs.YtlflalecmhgmjaaGreatDoor.N
open Go.Proofs.YtlflalecmhgmjaaGreatDoor
open Go.X
open Go.Proofs
set_option maxRecDepth 100000
theorem all_no {s : ByteArray} {k : Nat} {x : UInt8} (hx : s.data.toList[k]? = some x) (h : G.prnt x.toNat = false) : labB s = false := by
 unfold labB
 have : (s.data.toList.all fun c => G.prnt c.toNat) = false := by
  rw [List.all_eq_false]
  exact ⟨x, List.mem_of_getElem? hx, by simp [h]⟩
 rw [this]; rfl
theorem ok32' {s : ByteArray} {R : Bool -> Prop} (r : R (labB s)) : Ok32 s R := by
 apply ok32
 unfold T32
 have hl : s.data.toList.length = s.size := rfl
 refine cnd_dec (fun h => ?_) fun h => ?_
 ·have : labB s = false := by unfold labB; rw [decide_eq_false (show ¬ s.size <= 256 by omega), Bool.and_false]
  rw [this] at r; exact r
 refine ⟨fun i => ∃ k : Nat, i = k /\ k <= s.size /\ (s.data.toList.take k).all (fun c => G.prnt c.toNat) = true, fun i => ((s.size : Int) - i).toNat, ⟨0, rfl, by omega, by simp⟩, ?_⟩
 rintro _ ⟨k, rfl, hk, ha⟩
 refine cnd_dec (fun hlt => ?_) fun hlt => ?_
 ·have hx : s.data.toList[k]? = some (s.data.toList[k]'(by omega)) := List.getElem?_eq_getElem (by omega)
  generalize s.data.toList[k]'(by omega) = x at hx
  have hx2 : s[Int.toNat (k : Int)]? = some x := by rw [Int.toNat_natCast, getB]; exact hx
  refine ⟨by omega, hlt, x, hx2, cnd_dec (fun q => ?_) fun q => ⟨by omega, hlt, x, hx2, cnd_dec (fun q2 => ?_) fun q2 => ?_⟩⟩
  ·rw [all_no hx (by unfold G.prnt; exact decide_eq_false (by omega))] at r; exact r
  ·rw [all_no hx (by unfold G.prnt; exact decide_eq_false (by omega))] at r; exact r
  ·rw [wr (by omega) (by omega)]
   refine ⟨⟨k + 1, by simp, by omega, ?_⟩, by dsimp only; omega⟩
   rw [List.take_add_one, hx]
   simp only [List.all_append, ha, Bool.true_and, Option.toList, List.all_cons, List.all_nil, Bool.and_true]
   unfold G.prnt; exact decide_eq_true (by omega)
 ·have hke : k = s.size := by omega
  rw [hke, <- hl, List.take_length] at ha
  have e : labB s = true := by
   unfold labB; rw [ha, decide_eq_true (show s.size <= 256 by omega)]; rfl
  rw [e] at r; exact r
def dL (ls : List ByteArray) : G.Dc := ⟨ls.length, false, [], ls, [], []⟩
theorem nodeL_len {ls : List ByteArray} (hp : ∀ s ∈ ls, s.size <= 256) (hn : ls.length <= 1000) : ∀ (k v : Nat), v + k <= 1000 -> (G.linesT (G.nodesL tx0 (dL ls) k v)).length <= 2000 * k
 | 0, v, _ => by simp [G.nodesL, G.linesT]
 | k + 1, v, hv => by
  rw [G.nodesL, G.linesT_app, List.length_append]
  have ih := nodeL_len hp hn k (v + 1) (by omega)
  have e : (G.linesT (G.nodeL tx0 (dL ls).labels[v]? (dL ls).spots[v]? v)).length <= 2000 := by
   have d9 := dec_len9 (n := v) (by omega)
   have e1 : (dL ls).spots[v]? = none := rfl
   cases q : (dL ls).labels[v]? with
   | none =>
    rw [e1]
    simp [G.nodeL, G.linesT, G.kv, G.opn, G.cls, G.ind, G.kId, G.kNode]; omega
   | some l =>
    have := hp l (List.mem_of_getElem? (l := ls) q)
    have h2 := quo_len l.data.toList
    have h3 : l.data.toList.length = l.size := rfl
    rw [e1]
    simp [G.nodeL, G.linesT, G.kv, G.opn, G.cls, G.ind, G.kId, G.kNode, G.kLabel]; omega
  omega
theorem wrL_len {ls : List ByteArray} (hp : ∀ s ∈ ls, s.size <= 256) (hn : ls.length <= 60) : (G.wr tx0 (dL ls)).length <= 262144 := by
 have := nodeL_len hp (by omega) ls.length 0 (by omega)
 unfold G.wr G.docL
 rw [G.linesT_cons, G.linesT_cons, G.linesT_app, G.linesT_app]
 have e1 : (G.linesT (G.edgesL tx0 (dL ls).edges (dL ls).weights)).length = 0 := rfl
 have e2 : (G.linesT [G.cls 0]).length = 2 := by simp [G.linesT, G.cls, G.ind]
 have e3 : (G.opn 0 G.kGraph).length = 7 := by simp [G.opn, G.kv, G.ind, G.kGraph]
 have e4 : (G.kv 2 G.kDirected (if (dL ls).dir = true then [49] else [48])).length = 12 := by simp [G.kv, G.ind, G.kDirected, dL]
 simp only [List.length_append, List.length_cons, e1, e2, e3, e4]
 show 7 + (12 + ((G.linesT (G.nodesL tx0 (dL ls) ls.length 0)).length + (0 + 2) + 1) + 1) <= _
 omega
theorem ok_dL {ls : List ByteArray} (hp : ls.all labB = true) (hn : ls.length <= 60) : G.Ok (dL ls) :=
 ⟨(by show ls.length <= 1024; omega), (by show 0 <= 3072; omega), (by intro e he; cases he), .inr rfl, fun l hl => by
  have := List.all_eq_true.1 hp l hl
  unfold labB at this
  simp only [Bool.and_eq_true, decide_eq_true_eq, List.all_eq_true] at this
  exact ⟨this.2, this.1⟩, .inl rfl, .inl rfl⟩
theorem read_dL {ls : List ByteArray} (hp : ls.all labB = true) (hn : ls.length <= 60) : G.read rdF cleanM (G.mkB (G.wr tx0 (dL ls))) = .ok (dL ls) := by
 have h := ok_dL hp hn
 have := G.read_back (s := G.mkB (G.wr tx0 (dL ls))) (rd := rdF) (cl := cleanM) (f := fun _ => 0) h dec_read (tx := tx0) ⟨(by intro p hp; cases hp), (by intro p hp; cases hp)⟩ (by rw [mkBl]; exact G.sp_lines _) (by rw [mkB_sz]; exact wrL_len (ls := ls) (fun s hs => (h.p s hs).1) hn)
 rw [this]; rfl
section
variable {gl : GL} {h : Heap} {aL : Option Addr} {nL cL : Nat} {ls : List ByteArray}
theorem okLabels (H : Hp h [Ck.glob gl, Ck.vw eS aL nL cL ls]) (hsz : ∀ s ∈ ls, s.size <= 9223372036854775807) : CallsH Tryz.prog 10 #[.slice aL nL cL] h fun v h' => v = .bool true /\ Fr [] h h' := by
 apply calls10
 unfold S10
 have Q0 := Sq.start H
 have lL := Q0.sy.lenV 1 rfl
 refine callX_ofR [] (hd1 (Q0.sy.ok (k := 0) (c := Ck.glob gl) rfl)) (by simp) (fun _ _ r => r.2) ?_
 rintro v h1 ⟨rfl, f1⟩
 refine ⟨_, rfl, cnd_f rfl (cnd_dec (fun q => ⟨rfl, f1⟩) fun q => cnd_dec (fun q2 => ⟨rfl, f1⟩) fun q2 => ?_)⟩
 intro h2 h3
 have F3 : Fr [] h h3 := ((((((f1.pushr _).hsetL f1.size).hsetL f1.size).hsetL f1.size).hsetL f1.size).hsetL f1.size).hsetL f1.size
 clear_value h3
 have Q3 := Q0.gr F3
 have g3 : Gl gl h3 := Q3.sy.ok (k := 0) (c := Ck.glob gl) rfl
 have eN : ((nL : Nat) : Int) = (ls.length : Int) := by rw [lL]
 have eDoc : docB (nL : Int) [] ls [] [] = ls.all labB := by
  unfold docB
  have e1 : mayB (nL : Int) [] = true := by simp [mayB]; omega
  have e2 : noneB (ls.length : Int) (nL : Int) = true := by unfold noneB; simp; omega
  rw [e1, e2]
  simp [noneB]
 have eTo : toDc (nL : Int) false [] ls [] [] = dL ls := by unfold toDc dL; rw [eN]; simp
 have HV : Hp h3 (dV gl none 0 0 [] aL nL cL ls none 0 0 [] none 0 0 []) := by
  have Y := ((((Q3.sy.nilS eP 48).nilS eFF 78).nilS eF 76))
  have Y2 := (((Y.turn 2 rfl To.slvw).turn 3 rfl To.slvw).turn 4 rfl To.slvw).pick [0, 2, 1, 3, 4] rfl
  exact Y2.hp
 refine callX_ofR [] (ok22 (tx := tx0) (n := (nL : Int)) (dir := false) HV hsz (by omega) (by simp) (by simp)) (by simp) (fun _ _ r => r.2) ?_
 rintro v h4 ⟨rfl, f4⟩
 refine ⟨_, _, rfl, ?_⟩
 have F4 := F3.trans f4
 have Q4 := Q3.gr f4
 refine ⟨fun lz h' => ∃ (k : Nat), lz = [.bool ((ls.take k).all labB), .int .i64 (k : Int)] /\ k <= ls.length /\ Fr [] h4 h', fun lz _ => match lz with | [_, .int _ i] => ((ls.length : Int) - i).toNat | _ => 0, ⟨0, by simp, by omega, Fr.refl _ _⟩, ?_⟩
 rintro plain i h5 ⟨k, e, hk, f5⟩
 simp only [List.cons.injEq, Value.bool.injEq, Value.int.injEq, and_true, true_and] at e
 obtain ⟨rfl, rfl⟩ := e
 have F5 := F4.trans f5
 have Q5 := Q4.gr f5
 have hw : k < ls.length -> IntKind.i64.wrap ((k : Int) + 1) = ((k + 1 : Nat) : Int) := fun _ => by rw [wr (by omega) (by omega)]; omega
 refine cnd_dec (fun hlt => ?_) fun hlt => ?_
 ·have hkl : k < ls.length := by omega
  have hx : ls[k]? = some ls[k] := List.getElem?_eq_getElem hkl
  generalize ls[k] = x at hx
  have step : (ls.take (k + 1)).all labB = ((ls.take k).all labB && labB x) := by
   rw [List.take_add_one, hx]; simp [List.all_append, Option.toList]
  rw [hw hkl]
  refine cnd_b (fun q3 => ?_) fun q3 => ?_
  ·obtain ⟨b, o, ea, _⟩ := Q5.sy.atV 1 rfl (i := (k : Int)) (by omega) (by omega)
   refine ⟨b, o, ea, by omega, by omega, x, Q5.sy.cellV 1 rfl ea (i := k) (t := 0) hx rfl, ?_⟩
   refine callX_ofR (R := fun v h' => v = .bool (labB x) /\ Fr [] h5 h') [] ?_ (by simp) (fun _ _ r => r.2) ?_
   ·exact (ok32' (R := fun r => r = labB x) rfl h5 (Hp.nil _)).mono fun v h' ⟨r, Y, e, q⟩ => ⟨by rw [e, q], Y.fr⟩
   rintro v h6 ⟨rfl, f6⟩
   exact ⟨_, rfl, ⟨k + 1, by rw [step, q3, Bool.true_and], by omega, f5.trans f6⟩, by dsimp only; omega⟩
  ·exact ⟨⟨k + 1, by rw [step, q3, Bool.false_and], by omega, f5⟩, by dsimp only; omega⟩
 have hkl : k = ls.length := by omega
 subst hkl
 rw [List.take_length]
 refine cnd_not (fun q3 => ?_) fun q3 => ?_
 ·have eW : wrV tx0 (nL : Int) false [] ls [] [] = ([], 1) := by unfold wrV; rw [eDoc, if_pos q3]
  rw [eW]
  refine cnd_t rfl (cnd_t (by rw [strEqK]; decide) ?_)
  have HV5 : Hp h5 (dV gl none 0 0 [] aL nL cL ls none 0 0 [] none 0 0 []) := by
   have Y := ((((Q5.sy.nilS eP 48).nilS eFF 78).nilS eF 76))
   have Y2 := (((Y.turn 2 rfl To.slvw).turn 3 rfl To.slvw).turn 4 rfl To.slvw).pick [0, 2, 1, 3, 4] rfl
   exact Y2.hp
  refine callX_ofR (R := fun v h' => v = .bool false /\ Fr [] h5 h') [] ?_ (by simp) (fun _ _ r => r.2) ?_
  ·refine (okDoc (n := (nL : Int)) (es := []) (dr := false) (ls := ls) (ss := []) (ws := []) (R := fun r => r = false) hsz (by omega) (by rw [eDoc]; exact q3) h5 _ _ _ _ _ _ _ _ _ _ _ _ (HV5.pick [1, 2, 3, 4] rfl)).mono ?_
   rintro v h' ⟨r, Y, rfl, rfl⟩
   exact ⟨rfl, Y.fr⟩
  rintro v h7 ⟨rfl, f7⟩
  exact ⟨_, rfl, rfl, F5.trans f7⟩
 have hn : ls.length <= 60 := by omega
 have hok := ok_dL q3 hn
 have eW : wrV tx0 (nL : Int) false [] ls [] [] = (G.wr tx0 (dL ls), 0) := by
  unfold wrV
  have := wrL_len (ls := ls) (fun s hs => (hok.p s hs).1) hn
  rw [eDoc, if_neg (by rw [q3]; decide), eTo, if_neg (by omega)]
 rw [eW]
 have rd := read_dL q3 hn
 refine callX_ofR (R := rdR gl (G.mkB (G.wr tx0 (dL ls))) rdF cleanM h5) [] (ok23 (rdF_ok gl) ok_clean ok269 (Q5.sy.ok (k := 0) (c := Ck.glob gl) rfl) (by rw [mkB_sz]; have := wrL_len (ls := ls) (fun s hs => (hok.p s hs).1) hn; show (G.wr tx0 (dL ls)).length <= _; omega) (by rw [rd]; simp)) (by simp) ?_ ?_
 ·rintro v h' (⟨dc, aD, aL, aS, aW, nD, cD, nL, cL, nS, cS, nW, cW, _, _, q⟩ | ⟨f, _, _, q⟩)
  ·exact q.fr
  ·exact q
 rintro v h8 (⟨dc, aD, aL2, aS, aW, nD, cD, nL2, cL2, nS, cS, nW, cW, e, rfl, q⟩ | ⟨f, e, _, q⟩)
 rotate_left
 ·rw [rd] at e; cases e
 rw [rd] at e
 obtain rfl : dL ls = dc := by injection e
 refine ⟨_, aD, nD, cD, _, aL2, nL2, cL2, aS, nS, cS, aW, nW, cW, 0, 0, rfl, ?_⟩
 intro h9 h10 K
 have f10 : Fr [] h8 h10 := ((((((Fr.push h8 _).hsetL (Nat.le_refl _)).hsetL (Nat.le_refl _)).hsetL (Nat.le_refl _)).hsetL (Nat.le_refl _)).hsetL (Nat.le_refl _)).hsetL (Nat.le_refl _)
 clear_value h10
 have q10 := q.gr f10
 have F10 : Fr [] h h10 := F5.trans q10.fr
 have Q10 := Q5.gr q10.fr
 have l2 := q10.sy.lenS 1 rfl
 have hll : (dL ls).labels.length = ls.length := rfl
 refine cnd_f rfl (cnd_f rfl (cnd_f rfl (cnd_f ?_ ?_)))
 ·rw [l2, hll, <- lL]; simp
 refine ⟨fun lz h' => ∃ (k : Nat), lz = [.int .i64 (k : Int)] /\ k <= ls.length /\ h' = h10, fun lz _ => match lz with | [.int _ i] => ((ls.length : Int) - i).toNat | _ => 0, ⟨0, rfl, by omega, rfl⟩, ?_⟩
 rintro i h12 ⟨j, e, hj, rfl⟩
 obtain rfl : i = (j : Int) := by simpa using e
 refine cnd_dec (fun hlt => ?_) fun hlt => ⟨rfl, F10⟩
 have hjl : j < ls.length := by omega
 have hx : ls[j]? = some ls[j] := List.getElem?_eq_getElem hjl
 generalize ls[j] = x at hx
 obtain ⟨b2, e2, _⟩ := q10.sy.atS 1 rfl (i := (j : Int)) (by omega) (by omega)
 obtain ⟨b3, o3, e3, _⟩ := Q10.sy.atV 1 rfl (i := (j : Int)) (by omega) (by omega)
 refine ⟨b2, 0, e2, by omega, by omega, x, q10.sy.cellS 1 rfl e2 (i := j) (t := 0) hx rfl, b3, o3, e3, by omega, by omega, x, Q10.sy.cellV 1 rfl e3 (i := j) (t := 0) hx rfl, cnd_f (by simp) ?_⟩
 have hw : IntKind.i64.wrap ((j : Int) + 1) = ((j + 1 : Nat) : Int) := by rw [wr (by omega) (by omega)]; omega
 rw [hw]
 exact ⟨⟨j + 1, rfl, by omega, rfl⟩, by dsimp only; omega⟩
end
end Go.Proofs.YtlflalecmhgmjaaGreatDoor.N
