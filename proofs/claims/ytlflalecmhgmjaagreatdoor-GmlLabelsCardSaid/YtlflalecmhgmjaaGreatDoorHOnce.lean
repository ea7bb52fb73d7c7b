/- The writer of GML: its lines. Conditions: none. -/
import Derived.Test.YtlflalecmhgmjaaGreatDoorGWr
import Derived.Lib.Replace
import Derived.Test.YtlflalecmhgmjaaGreatDoorWEnv
import Derived.Test.YtlflalecmhgmjaaGreatDoorYGl
import Derived.Test.YtlflalecmhgmjaaGreatDoorSRd
set_option linter.unusedVariables false
set_option linter.unusedSimpArgs false
namespace Go.Proofs.YtlflalecmhgmjaaGreatDoor.N
open Go.Proofs.YtlflalecmhgmjaaGreatDoor
open Go.X
open Go.Proofs
set_option maxRecDepth 100000
theorem sybl0 {h0 h : Heap} {M : List Nat} {cs : List Ck} (Y : Sy h0 M h cs) (k : Nat) {c : Ck} (hk : cs[k]? = some c) : ∀ x ∈ c.own, x < h.size := (c.lt h (Y.ok hk)).1
section
variable {b c d : Nat} {u : Bool} {A : Option Addr} {l : List UInt8} {h : Heap}
theorem ok128 (H : Hp h (wC b u A c d l)) : CallsH Tryz.prog 128 #[.pointer (some ⟨b, 0, none⟩)] h fun v h' => v = .tuple #[] /\ Sq h (wC b u A c d l) h' (wC b true A c d l) := by
 intro w hw
 subst hw
 have hb : w.heap[b]? = some (.cells #[pU u b, .slice A l.length c, .int .i64 (d : Int)] 83 (0, 0)) := H.ok 0 _ rfl
 cases u with
 | true =>
  have h0 : w.cell? ⟨b, 0, none⟩ = some (.pointer (some ⟨b, 0, none⟩)) := by rw [cell_hcell, hcell_of hb]; rfl
  refine (copy_used b w h0).mono fun e w' r => ?_
  obtain ⟨rfl, rfl⟩ := r
  exact ⟨_, rfl, Rest.refl _, rfl, Sq.start H⟩
 | false =>
  have h0 : w.cell? ⟨b, 0, none⟩ = some (.pointer none) := by rw [cell_hcell, hcell_of hb]; rfl
  have hsh : w.shape? b = some (83, 3) := by simp [World.shape?, hb]
  have hfz : w.frozen? ⟨b, 0, none⟩ = false := by simp [World.frozen?, hb]
  refine (copy_fresh b w h0 hsh hfz).mono fun e w' r => ?_
  obtain ⟨rfl, rfl⟩ := r
  refine ⟨_, rfl, Rest.setCell _ _ _, rfl, ?_⟩
  rw [heap_setCell]
  exact ⟨(Sy.start H).stO 0 rfl 0 (.pointer (some ⟨b, 0, none⟩)), fun x hx => by simp [rds, wC, Ck.ob, Ck.sl] at hx⟩
theorem wrds {c' d' : Nat} {u' : Bool} {A' : Option Addr} {l' : List UInt8} : rds (wC b u' A' c' d' l') = [] := rfl
theorem ok86 {s : ByteArray} (H : Hp h (wC b u A c d l)) (hs : l.length + s.size <= 100000000) : CallsH Tryz.prog 86 #[.pointer (some ⟨b, 0, none⟩), .string s] h fun v h' => v = .tuple #[.int .i64 (s.size : Int), .nilIface] /\
  ∃ A' c', Sq h (wC b u A c d l) h' (wC b true A' c' d (l ++ s.data.toList)) := by
 apply calls86
 unfold S86
 refine callX_ofR (owns (wC b u A c d l)) (ok128 H) (by simp) (fun _ _ r => r.2.fr) fun v h1 r => ?_
 obtain ⟨rfl, Q⟩ := r
 have Y := Q.sy
 refine ⟨rfl, b, 0, rfl, A, l.length, c, Y.cellO 0 rfl 1 rfl, (eK .u8).l (bI l), (Y.ownS 1 rfl), by simp, by omega, by unfold maxLen; omega, ?_⟩
 intro sA sC h2 ow f g _
 have e : Lib.strCells s = (eK .u8).l (bI s.data.toList) := (bytesL_l s).symm
 rw [e] at ow
 have Y1 := Y.appS 1 rfl (bI s.data.toList) ow f g rfl (by rw [bI_len]; rfl)
 refine ⟨b, 0, rfl, ⟨_, Y1.cellO 0 rfl 1 rfl⟩, Y1.freeO 0 rfl 1, rfl, sA, sC, ?_, fun x hx => by rw [wrds] at hx; cases hx⟩
 have Y2 := Y1.stO 0 rfl 1 (.slice sA (l.length + s.size) sC)
 have el : (l ++ s.data.toList).length = l.length + s.size := List.length_append
 unfold wC
 rw [el, bI_app]
 exact Y2
theorem ok88 {x : UInt8} (H : Hp h (wC b u A c d l)) (hs : l.length <= 100000000) : CallsH Tryz.prog 88 #[.pointer (some ⟨b, 0, none⟩), .int .u8 ((x.toNat : Nat) : Int)] h fun v h' => v = .nilIface /\
  ∃ A' c', Sq h (wC b u A c d l) h' (wC b true A' c' d (l ++ [x])) := by
 apply calls88
 unfold S88
 refine callX_ofR (owns (wC b u A c d l)) (ok128 H) (by simp) (fun _ _ r => r.2.fr) fun v h1 r => ?_
 obtain ⟨rfl, Q⟩ := r
 have Y := Q.sy
 refine ⟨rfl, b, 0, rfl, A, l.length, c, Y.cellO 0 rfl 1 rfl, ?_⟩
 intro h2
 have Y1 : Sy h _ h2 (wC b true A c d l) := Y.gr (Fr.push h1 _)
 have hbl : b < h1.size := sybl0 Y 0 rfl b (by simp [Ck.ob])
 have hbA : ∀ y ∈ blkOf A, y < h1.size := sybl0 Y 1 rfl
 refine ⟨(eK .u8).l (bI l), Y1.ownS 1 rfl, fun y hy => ?_, by omega, by unfold maxLen; omega, ?_⟩
 ·simp at hy; subst hy
  intro q; have := hbA _ q; omega
 intro sA sC h3 ow f g _
 have Y2 := Y1.appS 1 rfl (bI [x]) ow f g rfl rfl
 refine ⟨b, 0, rfl, by omega, ⟨_, Y2.cellO 0 rfl 1 rfl⟩, Y2.freeO 0 rfl 1, rfl, sA, sC, ?_, fun x hx => by rw [wrds] at hx; cases hx⟩
 have Y3 := Y2.stO 0 rfl 1 (.slice sA (l.length + 1) sC)
 unfold wC
 rw [List.length_append, bI_app]
 exact Y3
theorem ok43 (H : Hp h (wC b u A c d l)) : CallsH Tryz.prog 43 #[.pointer (some ⟨b, 0, none⟩)] h fun v h' => v = .int .i64 (l.length : Int) /\ h' = h := by
 apply calls43
 unfold S43
 exact ⟨b, 0, rfl, A, l.length, c, (Sy.start H).cellO 0 rfl 1 rfl, rfl, rfl⟩
theorem ok44 (H : Hp h (wC b u A c d l)) (h0 : l ≠ []) : CallsH Tryz.prog 44 #[.pointer (some ⟨b, 0, none⟩)] h fun v h' => v = .string (G.mkB l) /\ Fr (owns (wC b u A c d l)) h h' := by
 intro w hw
 subst hw
 have hb : w.heap[b]? = some (.cells #[pU u b, .slice A l.length c, .int .i64 (d : Int)] 83 (0, 0)) := H.ok 0 _ rfl
 obtain ⟨⟨o1, o2⟩, _⟩ : Ownd w.heap 5 1 A l.length c ((eK .u8).l (bI l)) /\ _ := H.ok 1 _ rfl
 have hl0 : l.length ≠ 0 := by simpa using h0
 rcases o2 with ⟨_, q, _⟩ | ⟨g, cur, rfl, q1, q2, q3, q4, q5⟩
 ·exact absurd q hl0
 refine (str44 w h0 hb q1 q2 q3 q4 q5).mono fun e w' ⟨r1, r2, r3⟩ => ⟨_, r1, r2, rfl, r3.mono fun x hx => ?_⟩
 simp at hx; subst hx
 simp [owns, wC, Ck.ob, Ck.sl, blkOf]
theorem rep2 (n : Nat) : Lib.repeatL [32, 32] n = G.ind (2 * n) := by
 induction n with
 | zero => rfl
 | succ n ih =>
  have : Lib.repeatL [32, 32] (n + 1) = 32 :: 32 :: Lib.repeatL [32, 32] n := rfl
  rw [this, ih, show 2 * (n + 1) = 2 * n + 1 + 1 by omega]; rfl
def wds (ws : List ByteArray) : List Value := ws.map Value.string
def jn (ws : List ByteArray) : List UInt8 := Lib.join (ws.map (·.data.toList)) [32]
def lnB (d : Nat) (ws : List ByteArray) : List UInt8 := G.ind (2 * d) ++ (jn ws ++ [10])
theorem ok52 {p : Nat} {ws : List ByteArray} (H : Hp h (wC b u A c d l ++ [Ck.ob p 9 (wds ws)])) (hd : d <= 100) (hl : l.length <= 90000000) (hw : ws.length <= 100 /\ (jn ws).length <= 1000000) :
  CallsH Tryz.prog 52 #[.pointer (some ⟨b, 0, none⟩), .slice (some ⟨p, 0, none⟩) ws.length ws.length] h fun v h' => v = .tuple #[] /\
   ∃ A' c', Sq h (wC b u A c d l ++ [Ck.ob p 9 (wds ws)]) h' (wC b true A' c' d (l ++ lnB d ws) ++ [Ck.ob p 9 (wds ws)]) := by
 apply calls52
 unfold S52
 intro K
 have Q := Sq.start H
 refine ⟨b, 0, rfl, b, 0, rfl, (d : Int), Q.sy.cellO 0 rfl 2 rfl, ?_⟩
 refine callX_ofR (R := fun v h' => v = .string (G.mkB (G.ind (2 * d))) /\ Fr [] h h') [] ?_ (by simp) (fun _ _ r => r.2) ?_
 ·refine callsH_below (fun w hw => Go.Proofs.Tryz.strings_Repeat (⟨#[32, 32]⟩ : ByteArray) d w (by omega) (by show 2 * d <= _; omega)) fun h' f => ⟨?_, f⟩
  show Value.string ⟨(Lib.repeatL [32, 32] d).toArray⟩ = _
  rw [rep2]; rfl
 rintro v h1 ⟨rfl, f1⟩
 refine ⟨_, rfl, f1, ?_⟩
 have Q1 := Q.gr f1
 refine callX_ofR (owns (wC b u A c d l)) (ok86 (u := u) (A := A) (c := c) (d := d) (l := l) (Q1.pick [0, 1] rfl).hp (by show l.length + (List.replicate (2 * d) (32 : UInt8)).toArray.size <= _; simp; omega)) (by simp) (fun _ _ r => r.2.choose_spec.choose_spec.fr) ?_
 rintro v h2 ⟨rfl, A2, c2, q2⟩
 have Q2 : Sq h (wC b u A c d l ++ [Ck.ob p 9 (wds ws)]) h2 (wC b true A2 c2 d (l ++ G.ind (2 * d)) ++ [Ck.ob p 9 (wds ws)]) := Sq.call Q1 q2
 refine ⟨_, .inl ⟨rfl, ?_⟩⟩
 show K h2
 dsimp -zeta only [K]
 intro K2
 refine ⟨b, 0, rfl, ?_⟩
 have hp2 : h2[p]? = some (.cells (wds ws).toArray 9 (0, 0)) := Q2.sy.ok (k := 2) (c := Ck.ob p 9 (wds ws)) rfl
 refine callX_ofR (R := fun v h' => v = .string (G.mkB (jn ws)) /\ Fr [] h2 h') [] ?_ (by simp) (fun _ _ r => r.2) ?_
 ·refine callsH_below (fun w hw' => Go.Proofs.Tryz.strings_Join p 0 ws.length ws (⟨#[32]⟩ : ByteArray) w (fun j x hx => ?_) ?_ (by omega) (Nat.le_refl _) (by have := hw.2; unfold jn at this; show (Lib.join (ws.map (·.data.toList)) [32]).length <= _; omega)) fun h' f => ⟨rfl, f⟩
  ·subst hw'
   rw [cell_hcell, hcell_of hp2, Nat.zero_add]
   simp [wds, hx]
  ·subst hw'
   exact blk_lt hp2
 rintro v h3 ⟨rfl, f3⟩
 refine ⟨_, rfl, f3, ?_⟩
 have Q3 := Q2.gr f3
 have e1 : (l ++ G.ind (2 * d)).length = l.length + 2 * d := by simp [G.ind]
 refine callX_ofR (owns (wC b true A2 c2 d (l ++ G.ind (2 * d)))) (ok86 (u := true) (A := A2) (c := c2) (d := d) (l := l ++ G.ind (2 * d)) (Q3.pick [0, 1] rfl).hp (by rw [e1]; show l.length + 2 * d + (jn ws).toArray.size <= _; have := hw.2; simp; omega)) (by simp) (fun _ _ r => r.2.choose_spec.choose_spec.fr) ?_
 rintro v h4 ⟨rfl, A4, c4, q4⟩
 have Q4 : Sq h (wC b u A c d l ++ [Ck.ob p 9 (wds ws)]) h4 (wC b true A4 c4 d (l ++ G.ind (2 * d) ++ jn ws) ++ [Ck.ob p 9 (wds ws)]) := Sq.call Q3 q4
 refine ⟨_, .inl ⟨rfl, ?_⟩⟩
 show K2 h4
 dsimp -zeta only [K2]
 refine ⟨b, 0, rfl, ?_⟩
 have e2 : (l ++ G.ind (2 * d) ++ jn ws).length = l.length + 2 * d + (jn ws).length := by rw [List.length_append, e1]
 refine callX_ofR (owns (wC b true A4 c4 d (l ++ G.ind (2 * d) ++ jn ws))) (ok88 (x := 10) (u := true) (A := A4) (c := c4) (d := d) (l := l ++ G.ind (2 * d) ++ jn ws) (Q4.pick [0, 1] rfl).hp (by rw [e2]; have := hw.2; omega)) (by simp) (fun _ _ r => r.2.choose_spec.choose_spec.fr) ?_
 rintro v h5 ⟨rfl, A5, c5, q5⟩
 refine .inl ⟨rfl, rfl, A5, c5, ?_⟩
 have Q5 : Sq h (wC b u A c d l ++ [Ck.ob p 9 (wds ws)]) h5 (wC b true A5 c5 d (l ++ G.ind (2 * d) ++ jn ws ++ [10]) ++ [Ck.ob p 9 (wds ws)]) := Sq.call Q4 q5
 have e3 : l ++ G.ind (2 * d) ++ jn ws ++ [10] = l ++ lnB d ws := by unfold lnB; simp
 rw [e3] at Q5
 exact Q5
theorem ok51 {k : ByteArray} (H : Hp h (wC b u A c d l)) (hd : d <= 99) (hl : l.length <= 90000000) (hk : k.size <= 1000) : CallsH Tryz.prog 51 #[.pointer (some ⟨b, 0, none⟩), .string k] h fun v h' => v = .tuple #[] /\
  ∃ A' c', Sq h (wC b u A c d l) h' (wC b true A' c' (d + 1) (l ++ lnB d [k, ⟨#[91]⟩])) := by
 apply calls51
 unfold S51
 intro h1
 have Y : Sy h (owns (wC b u A c d l)) h1 (wC b u A c d l ++ [Ck.ob h.size 9 (wds [k, ⟨#[91]⟩])]) := Sy.newO (Sy.start H) _
 have hj : (jn [k, ⟨#[91]⟩]).length <= 1000000 := by
  have : k.data.toList.length = k.size := rfl
  simp [jn, Lib.join]; omega
 refine callX_ofR (owns (wC b u A c d l ++ [Ck.ob h.size 9 (wds [k, ⟨#[91]⟩])])) (ok52 (ws := [k, ⟨#[91]⟩]) Y.hp (by omega) hl ⟨by simp, hj⟩) (by simp) (fun _ _ r => r.2.choose_spec.choose_spec.fr) ?_
 rintro v h2 ⟨rfl, A2, c2, q2⟩
 have Z : Sq h (wC b u A c d l) h1 (wC b u A c d l ++ [Ck.ob h.size 9 (wds [k, ⟨#[91]⟩])]) := ⟨Y, fun x hx => by simp [rds, wC, Ck.ob, Ck.sl] at hx⟩
 have Q2 := Z.callT q2
 refine ⟨rfl, b, 0, rfl, (d : Int), Q2.sy.cellO 0 rfl 2 rfl, b, 0, rfl, ⟨_, Q2.sy.cellO 0 rfl 2 rfl⟩, Q2.sy.freeO 0 rfl 2, rfl, A2, c2, ?_⟩
 have Y3 := Q2.sy.stO 0 rfl 2 (.int .i64 ((d + 1 : Nat) : Int))
 rw [show IntKind.i64.wrap ((d : Int) + 1) = ((d + 1 : Nat) : Int) by rw [wr (by omega) (by omega)]; omega]
 exact ⟨Y3.pick [0, 1] rfl, fun x hx => by simp [rds, pk, wC, Ck.ob, Ck.sl] at hx⟩
theorem ok56 (H : Hp h (wC b u A c (d + 1) l)) (hd : d <= 99) (hl : l.length <= 90000000) : CallsH Tryz.prog 56 #[.pointer (some ⟨b, 0, none⟩)] h fun v h' => v = .tuple #[] /\
  ∃ A' c', Sq h (wC b u A c (d + 1) l) h' (wC b true A' c' d (l ++ lnB d [⟨#[93]⟩])) := by
 apply calls56
 unfold S56
 have Y := Sy.start H
 refine ⟨b, 0, rfl, ((d + 1 : Nat) : Int), Y.cellO 0 rfl 2 rfl, b, 0, rfl, ⟨_, Y.cellO 0 rfl 2 rfl⟩, Y.freeO 0 rfl 2, ?_⟩
 rw [show IntKind.i64.wrap (((d + 1 : Nat) : Int) - 1) = (d : Int) by rw [wr (by omega) (by omega)]; omega]
 intro h1 h2
 have Y1 : Sy h (owns (wC b u A c (d + 1) l)) h1 (wC b u A c d l) := Y.stO 0 rfl 2 (.int .i64 (d : Int))
 have Y2 : Sy h (owns (wC b u A c (d + 1) l)) h2 (wC b u A c d l ++ [Ck.ob h1.size 9 (wds [⟨#[93]⟩])]) := Sy.newO Y1 _
 refine callX_ofR (owns (wC b u A c d l ++ [Ck.ob h1.size 9 (wds [⟨#[93]⟩])])) (ok52 (ws := [⟨#[93]⟩]) Y2.hp (by omega) hl ⟨by simp, by simp [jn, Lib.join]⟩) (by simp) (fun _ _ r => r.2.choose_spec.choose_spec.fr) ?_
 rintro v h3 ⟨rfl, A2, c2, q2⟩
 have Z : Sq h (wC b u A c (d + 1) l) h2 (wC b u A c d l ++ [Ck.ob h1.size 9 (wds [⟨#[93]⟩])]) := ⟨Y2, fun x hx => by simp [rds, wC, Ck.ob, Ck.sl] at hx⟩
 have Q2 := Z.callT q2
 exact ⟨rfl, rfl, A2, c2, Q2.pick [0, 1] rfl⟩
end
end Go.Proofs.YtlflalecmhgmjaaGreatDoor.N
namespace Go.Proofs.YtlflalecmhgmjaaGreatDoor.N
open Go.Proofs.YtlflalecmhgmjaaGreatDoor
open Go.X
open Go.Proofs
set_option maxRecDepth 100000
def rep1 (c : UInt8) (nw : List UInt8) (x : UInt8) : List UInt8 := if x = c then nw else [x]
theorem replaceK_one (c : UInt8) (nw : List UInt8) : ∀ s : List UInt8, Lib.replaceK [c] nw (Lib.count s [c]) s = s.flatMap (rep1 c nw)
 | [] => by rw [Lib.count_miss (by simp [Lib.index])]; rfl
 | b :: l => by
  have ih := replaceK_one c nw l
  by_cases h : b = c
  ·subst h
   have hix : Lib.index (b :: l) [b] = ((0 : Nat) : Int) := by rw [Lib.index]; simp [List.isPrefixOf]
   rw [Lib.count_cons_eq, Nat.add_comm, Lib.replaceK_hit _ _ _ _ 0 hix]
   show [] ++ nw ++ Lib.replaceK [b] nw (Lib.count l [b]) l = _
   rw [ih, List.flatMap_cons]
   simp [rep1]
  ·rw [Lib.count_cons_ne b c l h, List.flatMap_cons]
   have e1 : rep1 c nw b = [b] := by unfold rep1; rw [if_neg h]
   rw [e1, <- ih]
   have hp : ([c] : List UInt8).isPrefixOf (b :: l) = false := by simp [List.isPrefixOf, Ne.symm h]
   have hix : Lib.index (b :: l) [c] = if Lib.index l [c] == -1 then -1 else Lib.index l [c] + 1 := by rw [Lib.index, hp]; simp
   cases hk : Lib.count l [c] with
   | zero => rfl
   | succ k =>
    obtain ⟨i, hi⟩ := Lib.index_of_count (s := l) (old := [c]) (by omega)
    have hix' : Lib.index (b :: l) [c] = ((i + 1 : Nat) : Int) := by
     rw [hix, if_neg (fun e => by have := beq_iff_eq.1 e; omega), hi]; omega
    rw [Lib.replaceK_hit _ _ _ _ _ hix', Lib.replaceK_hit _ _ _ _ _ hi]
    rfl
theorem replaceAll_one (c : UInt8) (nw s : List UInt8) (h : [c] ≠ nw) : Lib.replaceAll s [c] nw = s.flatMap (rep1 c nw) := by
 unfold Lib.replaceAll Lib.replace
 rw [if_neg (by simpa using h)]
 have : Lib.replaceNum s [c] (-1) = Lib.count s [c] := by unfold Lib.replaceNum; rw [if_pos (.inl (by decide))]
 rw [this, replaceK_one]
theorem enc_two (l : List UInt8) : (l.flatMap (rep1 38 [38, 97, 109, 112, 59])).flatMap (rep1 34 [38, 113, 117, 111, 116, 59]) = G.enc l := by
 unfold G.enc
 rw [List.flatMap_assoc]
 congr 1
 funext x
 unfold rep1 G.enc1
 by_cases h1 : x = 38
 ·subst h1; decide
 ·rw [if_neg h1, if_neg h1]
  simp only [List.flatMap_cons, List.flatMap_nil, List.append_nil]
  rfl
theorem flat_len (f : UInt8 -> List UInt8) (k : Nat) (hf : ∀ x, (f x).length <= k) : ∀ l : List UInt8, (l.flatMap f).length <= k * l.length
 | [] => by simp
 | x :: l => by
  rw [List.flatMap_cons, List.length_append, List.length_cons, Nat.mul_succ]
  have := flat_len f k hf l; have := hf x; omega
theorem enc_len (l : List UInt8) : (G.enc l).length <= 6 * l.length := by
 refine flat_len _ 6 (fun x => ?_) l
 unfold G.enc1; split
 ·simp [G.amp]
 ·split <;> simp [G.quot]
theorem rep_len (l : List UInt8) : (l.flatMap (rep1 38 [38, 97, 109, 112, 59])).length <= 5 * l.length := by
 refine flat_len _ 5 (fun x => ?_) l
 unfold rep1; split <;> simp
theorem ok144 {s : ByteArray} {c : UInt8} {nw : List UInt8} {gl : GL} {h : Heap} (g : Gl gl h) (hs : s.size <= 1000000) (hn : nw.length <= 10) (hne : [c] ≠ nw) :
  CallsH Tryz.prog 144 #[.string s, .string ⟨#[c]⟩, .string (G.mkB nw)] h fun v h' => v = .string (G.mkB (s.data.toList.flatMap (rep1 c nw))) /\ Fr [] h h' := by
 obtain ⟨m, hm⟩ := g.ml
 refine callsH_below (fun w hw => Go.Proofs.Tryz.strings_ReplaceAll s (⟨#[c]⟩ : ByteArray) (G.mkB nw) m w (by omega) ?_ (by show 1 <= 1; omega) ?_) fun h' f => ⟨?_, f⟩
 ·subst hw; rw [cell_hcell]; exact hm
 ·have h1 := Lib.countB_le (⟨#[c]⟩ : ByteArray) (by show 1 <= 1; omega) s.size s (Nat.le_refl _)
  have h2 : (G.mkB nw).size = nw.length := by simp [G.mkB, ByteArray.size]
  rw [h2]
  have := Nat.mul_le_mul h1 hn
  omega
 ·have e : (⟨#[c]⟩ : ByteArray).data.toList = [c] := rfl
  have e2 : (G.mkB nw).data.toList = nw := by simp [G.mkB]
  rw [e, e2, replaceAll_one c nw _ hne]; rfl
theorem ok104 {s : ByteArray} {gl : GL} {h : Heap} (g : Gl gl h) (hs : s.size <= 100000) : CallsH Tryz.prog 104 #[.string s] h fun v h' => v = .string (G.mkB (G.quo s.data.toList)) /\ Fr [] h h' := by
 apply calls104
 unfold S104
 refine callX_ofR (R := fun v h' => v = .string (G.mkB (s.data.toList.flatMap (rep1 38 [38, 97, 109, 112, 59]))) /\ Fr [] h h') [] (ok144 (c := 38) (nw := [38, 97, 109, 112, 59]) g (by omega) (by decide) (by decide)) (by simp) (fun _ _ r => r.2) ?_
 rintro v h1 ⟨rfl, f1⟩
 have hs0 : s.data.toList.length = s.size := rfl
 have e1 := rep_len s.data.toList
 have sz : ∀ l : List UInt8, (G.mkB l).size = l.length := fun l => by simp [G.mkB, ByteArray.size]
 have dt : ∀ l : List UInt8, (G.mkB l).data.toList = l := fun l => by simp [G.mkB]
 refine ⟨_, rfl, ?_⟩
 refine callX_ofR [] (ok144 (s := G.mkB (s.data.toList.flatMap (rep1 38 [38, 97, 109, 112, 59]))) (c := 34) (nw := [38, 113, 117, 111, 116, 59]) (gl := gl) (g.fr f1 (by simp)) (by rw [sz]; omega) (by decide) (by decide)) (by simp) (fun _ _ r => r.2) ?_
 rintro v h2 ⟨rfl, f2⟩
 rw [dt, enc_two]
 have e3 := enc_len s.data.toList
 refine ⟨_, rfl, ?_, ?_, ?_, f1.trans f2⟩
 ·rw [sz]; show ((1 + _ : Nat) : Int) <= _; omega
 ·rw [ByteArray.size_append, sz]; show ((1 + _ + 1 : Nat) : Int) <= _; omega
 ·congr 1
end Go.Proofs.YtlflalecmhgmjaaGreatDoor.N
namespace Go.Proofs.YtlflalecmhgmjaaGreatDoor.N
open Go.Proofs.YtlflalecmhgmjaaGreatDoor
open Go.X
set_option maxRecDepth 100000
set_option maxHeartbeats 2000000
def S66 (g : Int) (gA : Option Addr) (gL gC : Nat) (h : Heap) (R : Value -> Heap -> Prop) : Prop :=
 let f : Heap := h.push (.cells #[.int .i64 g, .slice gA gL gC] 24)
 let n := fun (r : Heap) =>
  (R (.bool false) r)
 cnd (decide (g < (0 : Int)))
  (n f)
  (cnd (decide (g > (1024 : Int)))
   (n f)
   (cnd (decide (((gL : Nat) : Int) > (3072 : Int)))
    (R (.bool false) f)
    (∃ (i : List Value -> Heap -> Prop) (p : List Value -> Heap -> Nat), i [.int .i64 0] f /\
    ∀ a : Int, ∀ c, i [.int .i64 a] c ->
    cnd (decide (a < ((gL : Nat) : Int)))
     (∃ b o, gA = some ⟨b, o, none⟩ /\ 0 <= a /\ a < (gL : Nat) /\ ∃ k : Int, hcell c b (o + (Int.toNat a) * 2) = some (.int .i64 k) /\ ∃ l : Int, hcell c b ((o + (Int.toNat a) * 2) + 1) = some (.int .i64 l) /\ let s : Heap := c.push (.cells #[.int .i64 0, .int .i64 0] 48)
     let t : Heap := hset (hset s c.size 0 (.int .i64 k)) c.size (0 + 1) (.int .i64 l)
     ∃ (j : List Value -> Heap -> Prop) (q : List Value -> Heap -> Nat), j [.int .i64 0] t /\
     ∀ e : Int, ∀ d, j [.int .i64 e] d ->
     cnd (decide (e < (2 : Int)))
      (0 <= e /\ e < ((2 : Nat) : Int) /\ ∃ m : Int, (#[.int .i64 k, .int .i64 l] : Array Value)[Int.toNat e]? = some (.int .i64 m) /\ cnd (decide (m < (0 : Int)))
       (R (.bool false) d)
       (cnd (decide (m >= g))
        (R (.bool false) d)
        (j [.int .i64 (IntKind.i64.wrap (e + (1 : Int)))] d /\ q [.int .i64 (IntKind.i64.wrap (e + (1 : Int)))] d < q [.int .i64 e] d)))
      (i [.int .i64 (IntKind.i64.wrap (a + (1 : Int)))] d /\ p [.int .i64 (IntKind.i64.wrap (a + (1 : Int)))] d < p [.int .i64 a] c))
     (R (.bool true) c))))
theorem calls66 {h : Heap} {R : Value -> Heap -> Prop} (g : Int) (gA : Option Addr) (gL gC : Nat) (H : S66 g gA gL gC h R) : CallsH Tryz.prog 66 #[.agg #[.int .i64 g, .slice gA gL gC]] h R := by
 have e : S66 g gA gL gC h R = FX (envX [1, 4] 42) { loops := [(0, ⟨[1, 22, 23], [24], [1], []⟩), (2, ⟨[1, 22, 23, 24, 28], [29], [1], []⟩)], joins := [], blocks := [], draws := [] } Tryz.f66 (Tryz.f66.body.getD .skip) [.agg #[.int .i64 g, .slice gA gL gC]] h R := by kernel_rfl
 exact calls_of_FX (envX_ok _ _) Tryz.func66 (by kernel_rfl) (by kernel_rfl) (by kernel_rfl) (e ▸ H)
def Ok66 (g : Int) (edgesV : List (Int × Int)) (R : Bool -> Prop) : Prop :=
 ∀ (h : Heap) (gA : Option Addr) (gL gC : Nat), Hp h [Ck.vw eP gA gL gC edgesV] -> CallsH Tryz.prog 66 #[.agg #[.int .i64 g, .slice gA gL gC]] h fun v h' => ∃ (rV : Bool), Sy h [] h' [] /\ v = .bool rV /\ R rV
def T66 (g : Int) (edgesV : List (Int × Int)) (R : Bool -> Prop) : Prop :=
 ∃ e : Prop,
 ( cnd (decide (g < (0 : Int)))
   (e)
   (cnd (decide (g > (1024 : Int)))
    (e)
    (cnd (decide (((edgesV.length : Nat) : Int) > (3072 : Int)))
     (R false)
     (∃ (c : Int -> Prop) (i : Int -> Nat), c 0 /\
     ∀ a : Int, c a ->
     cnd (decide (a < ((edgesV.length : Nat) : Int)))
      (0 <= a /\ a < ((edgesV.length : Nat) : Int) /\ ∀ f : (Int × Int), edgesV[(Int.toNat a)]? = some f -> ∃ (d : Int -> Prop) (j : Int -> Nat), d 0 /\
      ∀ b : Int, d b ->
      cnd (decide (b < (2 : Int)))
       (0 <= b /\ b < ((2 : Nat) : Int) /\ ∃ h : Int, (#[.int .i64 f.1, .int .i64 f.2] : Array Value)[Int.toNat b]? = some (.int .i64 h) /\ cnd (decide (h < (0 : Int)))
        (R false)
        (cnd (decide (h >= g))
         (R false)
         (d (IntKind.i64.wrap (b + (1 : Int))) /\ j (IntKind.i64.wrap (b + (1 : Int))) < j b)))
       (c (IntKind.i64.wrap (a + (1 : Int))) /\ i (IntKind.i64.wrap (a + (1 : Int))) < i a))
      (R true))))) /\
 (e ->
 R false)
theorem ok66 {g edgesV} {R : Bool -> Prop} (T : T66 g edgesV R) : Ok66 g edgesV R := by
 intro h gA gL gC H
 have Y : Sy h [] h _ := Sy.startM H rfl
 obtain rfl := Y.lenV 0 rfl
 apply calls66
 unfold S66
 unfold T66 at T
 intro hv
 have Y : Sy _ _ hv [_, _] := Y.junk _
 clear_value hv
 obtain ⟨Jv, T0, T1⟩ := T
 obtain ⟨B, hB, _⟩ := Y.cut [] [0, 1] rfl
 intro K
 have hK : ∀  (hv2 : Heap), (Sy h [] hv2 ([] ++ B) /\ Jv) -> K hv2 := by
  subst hB
  clear T0 Y
  rintro hv2 ⟨Y, T⟩
  replace T := T1 T
  have Y : Sy _ _ _ [_, _] := Y
  unfold K
  exact ⟨_, Y.pick [] rfl, rfl, T⟩
 subst hB
 replace T := T0
 clear T0 T1
 refine cnd_imp T (fun T => ?_) (fun T => ?_)
 ·exact hK _ ⟨Y.pick [0, 1] rfl, T⟩
 ·refine cnd_imp T (fun T => ?_) (fun T => ?_)
  ·exact hK _ ⟨Y.pick [0, 1] rfl, T⟩
  ·refine cnd_imp T (fun T => ?_) (fun T => ?_)
   ·exact ⟨_, Y.pick [] rfl, rfl, T⟩
   ·obtain ⟨Iv, m, T0, T1⟩ := T
    obtain ⟨B_2, hB_2, YB⟩ := Y.cut [] [0, 1] rfl
    obtain ⟨JJ, hJJ⟩ : ∃ JJ : Nat -> List Value -> Heap -> Prop, JJ = (fun k lz h' => ∃ (x : Int), lz = [.int .i64 x] /\ Sy h [] h' ([] ++ B_2) /\ Iv x /\ m x = k) := ⟨_, rfl⟩
    refine ⟨fun lz h' => ∃ k, JJ k lz h', Lm JJ, ?_, ?_⟩
    ·subst hJJ hB_2
     exact ⟨_, _, rfl, YB, T0, rfl⟩
    ·clear YB T0 Y
     intro x hv3 hI
     obtain ⟨k, hI, hm⟩ := loopIn hI
     subst hJJ hB_2
     obtain ⟨x, e, Y, T, rfl⟩ := hI
     cases e
     replace T := T1 x T
     have Y : Sy _ _ _ [_, _] := Y
     refine cnd_imp T (fun T => ?_) (fun T => ?_)
     ·obtain ⟨q, q_2, T⟩ := T
      obtain ⟨b_2, o_2, hb, hr, g_2, hx⟩ := Y.atV 0 rfl q q_2
      refine ⟨b_2, o_2, hb, q, q_2, ?_⟩
      replace T := T g_2 hx
      refine ⟨_, Y.cellV 0 rfl hb (t := 0) hx rfl, ?_⟩
      refine ⟨_, Y.cellV 0 rfl hb (t := 1) hx rfl, ?_⟩
      intro hv4
      have Y : Sy _ _ hv4 [_, _, _] := Y.junk _
      clear_value hv4
      intro hv5
      have Y : Sy _ _ hv5 [_, _, _] := ((Y.stJ 2 rfl _ _).stJ 2 rfl _ _)
      clear_value hv5
      obtain ⟨Iv2, m2, T0, T1⟩ := T
      obtain ⟨B_3, hB_3, YB⟩ := Y.cut [] [0, 1, 2] rfl
      obtain ⟨JJ_2, hJJ_2⟩ : ∃ JJ_2 : Nat -> List Value -> Heap -> Prop, JJ_2 = (fun k_2 lz h' => ∃ (x4 : Int), lz = [.int .i64 x4] /\ Sy h [] h' ([] ++ B_3) /\ Iv2 x4 /\ m2 x4 = k_2) := ⟨_, rfl⟩
      refine ⟨fun lz h' => ∃ k_2, JJ_2 k_2 lz h', Lm JJ_2, ?_, ?_⟩
      ·subst hJJ_2 hB_3
       exact ⟨_, _, rfl, YB, T0, rfl⟩
      ·clear YB T0 Y
       intro x4 hv6 hI
       obtain ⟨k_2, hI, hm_2⟩ := loopIn hI
       subst hJJ_2 hB_3
       obtain ⟨x4, e, Y, T, rfl⟩ := hI
       cases e
       replace T := T1 x4 T
       have Y : Sy _ _ _ [_, _, _] := Y
       refine cnd_imp T (fun T => ?_) (fun T => ?_)
       ·obtain ⟨q_3, q_4, x5, q_5, T⟩ := T
        refine ⟨q_3, q_4, x5, q_5, ?_⟩
        refine cnd_imp T (fun T => ?_) (fun T => ?_)
        ·exact ⟨_, Y.pick [] rfl, rfl, T⟩
        ·refine cnd_imp T (fun T => ?_) (fun T => ?_)
         ·exact ⟨_, Y.pick [] rfl, rfl, T⟩
         ·exact loopBack hm_2 ⟨_, rfl, Y.pick [0, 1, 2] rfl, T.1, rfl⟩ T.2
       ·exact loopBack hm ⟨_, rfl, Y.pick [0, 1] rfl, T.1, rfl⟩ T.2
     ·exact ⟨_, Y.pick [] rfl, rfl, T⟩
def S67 (length : Int) (n : Int) (h : Heap) (R : Value -> Heap -> Prop) : Prop :=
 cnd (length == (0 : Int))
  (R (.bool true) h)
  (R (.bool (length == n)) h)
theorem calls67 {h : Heap} {R : Value -> Heap -> Prop} (length : Int) (n : Int) (H : S67 length n h R) : CallsH Tryz.prog 67 #[.int .i64 length, .int .i64 n] h R := by
 have e : S67 length n h R = FX (envX [] 12) { loops := [], joins := [], blocks := [], draws := [] } Tryz.f67 (Tryz.f67.body.getD .skip) [.int .i64 length, .int .i64 n] h R := by kernel_rfl
 exact calls_of_FX (envX_ok _ _) Tryz.func67 (by kernel_rfl) (by kernel_rfl) (by kernel_rfl) (e ▸ H)
def Ok67 (length : Int) (n : Int) (R : Bool -> Prop) : Prop :=
 ∀ (h : Heap), Hp h [] -> CallsH Tryz.prog 67 #[.int .i64 length, .int .i64 n] h fun v h' => ∃ (rV : Bool), Sy h [] h' [] /\ v = .bool rV /\ R rV
def T67 (length : Int) (n : Int) (R : Bool -> Prop) : Prop :=
 cnd (length == (0 : Int))
  (R true)
  (R (length == n))
theorem ok67 {length n} {R : Bool -> Prop} (T : T67 length n R) : Ok67 length n R := by
 intro h  H
 have Y : Sy h [] h _ := Sy.startM H rfl
 apply calls67
 unfold S67
 unfold T67 at T
 refine cnd_imp T (fun T => ?_) (fun T => ?_)
 ·exact ⟨_, Y.pick [] rfl, rfl, T⟩
 ·exact ⟨_, Y.pick [] rfl, rfl, T⟩
def Ok68 (s : ByteArray) (R : Bool -> Prop) : Prop :=
 ∀ (h : Heap), Hp h [] -> CallsH Tryz.prog 68 #[.string s] h fun v h' => ∃ (rV : Bool), Sy h [] h' [] /\ v = .bool rV /\ R rV
def S25 (d : Int) (dA : Option Addr) (dL dC : Nat) (d2 : Bool) (dA2 : Option Addr) (dL2 dC2 : Nat) (dA3 : Option Addr) (dL3 dC3 : Nat) (dA4 : Option Addr) (dL4 dC4 : Nat) (h : Heap) (R : Value -> Heap -> Prop) : Prop :=
 let u : Heap := h.push (.cells #[.int .i64 d, .slice dA dL dC, .bool d2, .slice dA2 dL2 dC2, .slice dA3 dL3 dC3, .slice dA4 dL4 dC4] 29)
 let f := fun (v : Heap) =>
  (R (.bool false) v)
 callX Tryz.prog 66 #[.agg #[.int .i64 d, .slice dA dL dC]] u [h.size] fun w i =>
 ∃ n : Bool, w = .bool n /\
 cnd (!n)
  (f i)
  (callX Tryz.prog 67 #[.int .i64 ((dL2 : Nat) : Int), .int .i64 d] i [h.size] fun x j =>
  ∃ p : Bool, x = .bool p /\
  cnd (!p)
   (f j)
   (callX Tryz.prog 67 #[.int .i64 ((dL3 : Nat) : Int), .int .i64 d] j [h.size] fun y k =>
   ∃ q : Bool, y = .bool q /\
   cnd (!q)
    (f k)
    (callX Tryz.prog 67 #[.int .i64 ((dL4 : Nat) : Int), .int .i64 ((dL : Nat) : Int)] k [h.size] fun z l =>
    ∃ r : Bool, z = .bool r /\
    cnd (!r)
     (R (.bool false) l)
     (∃ (e : List Value -> Heap -> Prop) (m : List Value -> Heap -> Nat), e [.int .i64 0] l /\
     ∀ a : Int, ∀ c, e [.int .i64 a] c ->
     cnd (decide (a < ((dL2 : Nat) : Int)))
      (∃ b o, dA2 = some ⟨b, o, none⟩ /\ 0 <= a /\ a < (dL2 : Nat) /\ ∃ t : ByteArray, hcell c b (o + (Int.toNat a) * 1) = some (.string t) /\ callX Tryz.prog 68 #[.string t] c [] fun A g =>
      ∃ s : Bool, A = .bool s /\
      cnd (!s)
       (R (.bool false) g)
       (e [.int .i64 (IntKind.i64.wrap (a + (1 : Int)))] g /\ m [.int .i64 (IntKind.i64.wrap (a + (1 : Int)))] g < m [.int .i64 a] c))
      (R (.bool true) c)))))
theorem calls25 {h : Heap} {R : Value -> Heap -> Prop} (d : Int) (dA : Option Addr) (dL dC : Nat) (d2 : Bool) (dA2 : Option Addr) (dL2 dC2 : Nat) (dA3 : Option Addr) (dL3 dC3 : Nat) (dA4 : Option Addr) (dL4 dC4 : Nat) (H : S25 d dA dL dC d2 dA2 dL2 dC2 dA3 dL3 dC3 dA4 dL4 dC4 h R) : CallsH Tryz.prog 25 #[.agg #[.int .i64 d, .slice dA dL dC, .bool d2, .slice dA2 dL2 dC2, .slice dA3 dL3 dC3, .slice dA4 dL4 dC4]] h R := by
 have e : S25 d dA dL dC d2 dA2 dL2 dC2 dA3 dL3 dC3 dA4 dL4 dC4 h R = FX (envX [1] 51) { loops := [(0, ⟨[41, 42], [43], [], []⟩)], joins := [], blocks := [], draws := [] } Tryz.f25 (Tryz.f25.body.getD .skip) [.agg #[.int .i64 d, .slice dA dL dC, .bool d2, .slice dA2 dL2 dC2, .slice dA3 dL3 dC3, .slice dA4 dL4 dC4]] h R := by kernel_rfl
 exact calls_of_FX (envX_ok _ _) Tryz.func25 (by kernel_rfl) (by kernel_rfl) (by kernel_rfl) (e ▸ H)
def Ok25 (d : Int) (edgesV : List (Int × Int)) (d2 : Bool) (labelsV : List ByteArray) (atV : List (Nat × Nat)) (weightV : List Nat) (R : Bool -> Prop) : Prop :=
 ∀ (h : Heap) (dA : Option Addr) (dL dC : Nat) (dA2 : Option Addr) (dL2 dC2 : Nat) (dA3 : Option Addr) (dL3 dC3 : Nat) (dA4 : Option Addr) (dL4 dC4 : Nat), Hp h [Ck.vw eP dA dL dC edgesV, Ck.vw eS dA2 dL2 dC2 labelsV, Ck.vw eFF dA3 dL3 dC3 atV, Ck.vw eF dA4 dL4 dC4 weightV] -> CallsH Tryz.prog 25 #[.agg #[.int .i64 d, .slice dA dL dC, .bool d2, .slice dA2 dL2 dC2, .slice dA3 dL3 dC3, .slice dA4 dL4 dC4]] h fun v h' => ∃ (rV : Bool), Sy h [] h' [] /\ v = .bool rV /\ R rV
def T25 (d : Int) (edgesV : List (Int × Int)) (d2 : Bool) (labelsV : List ByteArray) (atV : List (Nat × Nat)) (weightV : List Nat) (R : Bool -> Prop) : Prop :=
 ∃ b : Prop,
 ( Ok66 d edgesV (fun g =>
  cnd (!g)
   (b)
   (Ok67 ((labelsV.length : Nat) : Int) d (fun h =>
   cnd (!h)
    (b)
    (Ok67 ((atV.length : Nat) : Int) d (fun i =>
    cnd (!i)
     (b)
     (Ok67 ((weightV.length : Nat) : Int) ((edgesV.length : Nat) : Int) (fun j =>
     cnd (!j)
      (R false)
      (∃ (c : Int -> Prop) (f : Int -> Nat), c 0 /\
      ∀ a : Int, c a ->
      cnd (decide (a < ((labelsV.length : Nat) : Int)))
       (0 <= a /\ a < ((labelsV.length : Nat) : Int) /\ ∀ e : ByteArray, labelsV[(Int.toNat a)]? = some e -> Ok68 e (fun k =>
       cnd (!k)
        (R false)
        (c (IntKind.i64.wrap (a + (1 : Int))) /\ f (IntKind.i64.wrap (a + (1 : Int))) < f a)))
       (R true)))))))))) /\
 (b ->
 R false)
theorem ok25 {d edgesV d2 labelsV atV weightV} {R : Bool -> Prop} (T : T25 d edgesV d2 labelsV atV weightV R) : Ok25 d edgesV d2 labelsV atV weightV R := by
 intro h dA dL dC dA2 dL2 dC2 dA3 dL3 dC3 dA4 dL4 dC4 H
 have Y : Sy h [] h _ := Sy.startM H rfl
 obtain rfl := Y.lenV 0 rfl
 obtain rfl := Y.lenV 1 rfl
 obtain rfl := Y.lenV 2 rfl
 obtain rfl := Y.lenV 3 rfl
 apply calls25
 unfold S25
 unfold T25 at T
 intro hv
 have Y : Sy _ _ hv [_, _, _, _, _] := Y.junk _
 clear_value hv
 obtain ⟨Jv, T0, T1⟩ := T
 obtain ⟨B, hB, _⟩ := Y.cut [] [0, 1, 2, 3, 4] rfl
 intro K
 have hK : ∀  (hv6 : Heap), (Sy h [] hv6 ([] ++ B) /\ Jv) -> K hv6 := by
  subst hB
  clear T0 Y
  rintro hv6 ⟨Y, T⟩
  replace T := T1 T
  have Y : Sy _ _ _ [_, _, _, _, _] := Y
  unfold K
  exact ⟨_, Y.pick [] rfl, rfl, T⟩
 subst hB
 replace T := T0
 clear T0 T1
 refine callX_sy (T _ _ _ _ (Y.pick [0] rfl).hp) (fun _ _ ⟨_, p, _⟩ => p.fr) (allc (fun h => by cases h) alln) ?_
 rintro v hv2 ⟨r, PP, rfl, T⟩
 have Y : Sy _ _ hv2 [_, _, _, _, _] := Y.gr PP.fr
 clear PP
 refine ⟨r, rfl, ?_⟩
 refine cnd_imp T (fun T => ?_) (fun T => ?_)
 ·exact hK _ ⟨Y.pick [0, 1, 2, 3, 4] rfl, T⟩
 ·refine callX_sy (T _ (Hp.nil _)) (fun _ _ ⟨_, p, _⟩ => p.fr) (allc (fun h => by cases h) alln) ?_
  rintro v2 hv3 ⟨r2, PP, rfl, T⟩
  have Y : Sy _ _ hv3 [_, _, _, _, _] := Y.gr PP.fr
  clear PP
  refine ⟨r2, rfl, ?_⟩
  refine cnd_imp T (fun T => ?_) (fun T => ?_)
  ·exact hK _ ⟨Y.pick [0, 1, 2, 3, 4] rfl, T⟩
  ·refine callX_sy (T _ (Hp.nil _)) (fun _ _ ⟨_, p, _⟩ => p.fr) (allc (fun h => by cases h) alln) ?_
   rintro v3 hv4 ⟨r3, PP, rfl, T⟩
   have Y : Sy _ _ hv4 [_, _, _, _, _] := Y.gr PP.fr
   clear PP
   refine ⟨r3, rfl, ?_⟩
   refine cnd_imp T (fun T => ?_) (fun T => ?_)
   ·exact hK _ ⟨Y.pick [0, 1, 2, 3, 4] rfl, T⟩
   ·refine callX_sy (T _ (Hp.nil _)) (fun _ _ ⟨_, p, _⟩ => p.fr) (allc (fun h => by cases h) alln) ?_
    rintro v4 hv5 ⟨r4, PP, rfl, T⟩
    have Y : Sy _ _ hv5 [_, _, _, _, _] := Y.gr PP.fr
    clear PP
    refine ⟨r4, rfl, ?_⟩
    refine cnd_imp T (fun T => ?_) (fun T => ?_)
    ·exact ⟨_, Y.pick [] rfl, rfl, T⟩
    ·obtain ⟨Iv, m, T0, T1⟩ := T
     obtain ⟨B_2, hB_2, YB⟩ := Y.cut [] [0, 1, 2, 3, 4] rfl
     obtain ⟨JJ, hJJ⟩ : ∃ JJ : Nat -> List Value -> Heap -> Prop, JJ = (fun k lz h' => ∃ (x : Int), lz = [.int .i64 x] /\ Sy h [] h' ([] ++ B_2) /\ Iv x /\ m x = k) := ⟨_, rfl⟩
     refine ⟨fun lz h' => ∃ k, JJ k lz h', Lm JJ, ?_, ?_⟩
     ·subst hJJ hB_2
      exact ⟨_, _, rfl, YB, T0, rfl⟩
     ·clear YB T0 Y
      intro x hv7 hI
      obtain ⟨k, hI, hm⟩ := loopIn hI
      subst hJJ hB_2
      obtain ⟨x, e, Y, T, rfl⟩ := hI
      cases e
      replace T := T1 x T
      have Y : Sy _ _ _ [_, _, _, _, _] := Y
      refine cnd_imp T (fun T => ?_) (fun T => ?_)
      ·obtain ⟨q, q_2, T⟩ := T
       obtain ⟨b_2, o_2, hb, hr, d_2, hx⟩ := Y.atV 1 rfl q q_2
       refine ⟨b_2, o_2, hb, q, q_2, ?_⟩
       replace T := T d_2 hx
       refine ⟨_, Y.cellV 1 rfl hb (t := 0) hx rfl, ?_⟩
       refine callX_sy (T _ (Hp.nil _)) (fun _ _ ⟨_, p, _⟩ => p.fr) alln ?_
       rintro v5 hv8 ⟨r5, PP, rfl, T⟩
       have Y : Sy _ _ hv8 [_, _, _, _, _] := Y.gr PP.fr
       clear PP
       refine ⟨r5, rfl, ?_⟩
       refine cnd_imp T (fun T => ?_) (fun T => ?_)
       ·exact ⟨_, Y.pick [] rfl, rfl, T⟩
       ·exact loopBack hm ⟨_, rfl, Y.pick [0, 1, 2, 3, 4] rfl, T.1, rfl⟩ T.2
      ·exact ⟨_, Y.pick [] rfl, rfl, T⟩
end Go.Proofs.YtlflalecmhgmjaaGreatDoor.N
namespace Go.Proofs.YtlflalecmhgmjaaGreatDoor.N
open Go.Proofs.YtlflalecmhgmjaaGreatDoor
open Go.X
set_option maxRecDepth 100000
set_option maxHeartbeats 2000000
end Go.Proofs.YtlflalecmhgmjaaGreatDoor.N
namespace Go.Proofs.YtlflalecmhgmjaaGreatDoor.N
open Go.Proofs.YtlflalecmhgmjaaGreatDoor
open Go.X
set_option maxRecDepth 100000
theorem Ent_put (l : List (Value × Value)) (j : Nat) (k v : Value) : (Ent l).modify j (fun e => { e with key := k, val := v }) = Ent (l.modify j fun _ => (k, v)) := by
 refine Ent_ext fun i => ?_
 rw [Array.getElem?_modify, Ent_get, List.getElem?_modify]
 by_cases q : j = i
 ·subst q; cases l[j]? <;> simp
 ·cases l[i]? <;> simp [q]
theorem mkB_l (b : ByteArray) : G.mkB b.data.toList = b := by
 cases b; simp [G.mkB]
theorem mkB_eq {l : List UInt8} {b : ByteArray} : (Value.string (G.mkB l) = Value.string b) ↔ l = b.data.toList := by
 constructor
 ·intro e
  injection e with e
  rw [<- e]; simp [G.mkB]
 ·rintro rfl; rw [mkB_l]
theorem ek_get {ks : List (List UInt8)} {j : Nat} {p : Value × Value} (h : (ek ks)[j]? = some p) : ∃ k, ks[j]? = some k /\ p = (.string (G.mkB k), .int .i64 1) := by
 unfold ek at h
 rw [List.getElem?_map] at h
 cases e : ks[j]? with
 | none => rw [e] at h; cases h
 | some k => rw [e] at h; exact ⟨k, rfl, (Option.some.inj h).symm⟩
theorem ek_keys (ks : List (List UInt8)) : keysB tiStr (Ent (ek ks)) := by
 intro e he
 obtain ⟨j, p, h1, rfl⟩ := Ent_mem he
 obtain ⟨k, _, rfl⟩ := ek_get h1
 rfl
theorem hmap_push {h : Heap} {m : Nat} {x : Array MapEntry × Nat} (hm : hmap h m = some x) (o : Obj) : hmap (h.push o) m = some x := by
 obtain ⟨es, c⟩ := x
 have := hmap_some hm
 have hl := (Array.getElem?_eq_some_iff.1 this).1
 exact hmap_of (by rw [Array.getElem?_push, if_neg (by omega)]; exact this)
theorem hmap_lt {h : Heap} {m : Nat} {x : Array MapEntry × Nat} (hm : hmap h m = some x) : m < h.size := by
 obtain ⟨es, c⟩ := x
 exact (Array.getElem?_eq_some_iff.1 (hmap_some hm)).1
theorem ok209 {t : G.Tok} {h : Heap} {m : Nat} {ks : List (List UInt8)} (hm : hmap h m = some (Ent (ek ks), (ek ks).length)) (hn : ks.Nodup) :
  CallsP Tryz.prog 209 #[.map (some m), tokV t] h (fun v h' => t.l ∉ ks /\ v = .tuple #[] /\ Fr [m] h h' /\ hmap h' m = some (Ent (ek (ks ++ [t.l])), (ek (ks ++ [t.l])).length))
   (fun v h' => t.l ∈ ks /\ v = flt (t.at_, 18) /\ Fr [m] h h') := by
 unfold tokV
 apply calls209
 unfold S209
 intro hv K
 have ml := hmap_lt hm
 have hm1 : hmap hv m = some (Ent (ek ks), (ek ks).length) := hmap_push hm _
 have f1 : Fr [m] h hv := (Fr.push h _).nil
 have e1 : hv.size = h.size + 1 := by simp [hv]
 clear_value hv
 have none : ∀ {h1 : Heap}, Fr [m] h h1 -> hmap h1 m = some (Ent (ek ks), (ek ks).length) -> t.l ∉ ks -> K (hput h1 m ((Ent (ek ks)).push ⟨.string t.says, .int .i64 1, (ek ks).length⟩) ((ek ks).length + 1)) := by
  intro h1 f hmm hni
  have e : (Ent (ek ks)).push ⟨.string t.says, .int .i64 1, (ek ks).length⟩ = Ent (ek (ks ++ [t.l])) := by
   rw [Ent_push]; simp [ek, G.Tok.l, mkB_l]
  have el : (ek ks).length + 1 = (ek (ks ++ [t.l])).length := by simp [ek]
  rw [e, el]
  have hp := hmap_hput (hmap_lt hmm) (Ent (ek (ks ++ [t.l]))) (ek (ks ++ [t.l])).length
  refine ⟨m, rfl, _, _, hp, ek_keys _, fun ev he hk => ?_, fun q => ?_⟩
  ·obtain ⟨j, p, h3, rfl⟩ := Ent_mem he
   obtain ⟨k, _, rfl⟩ := ek_get h3
   exact ⟨1, rfl, callMust (fun _ => ⟨rfl, hni, rfl, f.trans (hput_fr _ _ _ _), hp⟩) fun z => absurd z (by decide)⟩
  ·exfalso
   refine q ⟨.string (G.mkB t.l), .int .i64 1, ks.length⟩ ?_ (mkB_eq.2 rfl)
   refine Array.mem_def.1 (Array.mem_of_getElem? (i := ks.length) ?_)
   rw [Ent_get]
   simp [ek]
 have some : ∀ {h1 : Heap} {j : Nat}, Fr [m] h h1 -> hmap h1 m = some (Ent (ek ks), (ek ks).length) -> ks[j]? = some t.l -> K (hput h1 m ((Ent (ek ks)).modify j fun e => { e with key := .string t.says, val := .int .i64 2 }) (ek ks).length) := by
  intro h1 j f hmm hj
  rw [Ent_put]
  have hp := hmap_hput (hmap_lt hmm) (Ent ((ek ks).modify j fun _ => (.string t.says, .int .i64 2))) (ek ks).length
  have at_ : ∀ {i : Nat} {p : Value × Value}, ((ek ks).modify j fun _ => (Value.string t.says, Value.int .i64 2))[i]? = Option.some p -> (i = j /\ p = (.string t.says, .int .i64 2)) \/ (i ≠ j /\ ∃ k, ks[i]? = Option.some k /\ p = (.string (G.mkB k), .int .i64 1)) := by
   intro i p hp
   rw [List.getElem?_modify] at hp
   by_cases q : j = i
   ·subst q
    cases e : (ek ks)[j]? with
    | none => rw [e] at hp; simp at hp
    | some y => rw [e] at hp; simp at hp; exact .inl ⟨rfl, hp.symm⟩
   ·cases e : (ek ks)[i]? with
    | none => rw [e] at hp; simp at hp
    | some y =>
     rw [e] at hp
     simp only [if_neg q, Option.map_eq_map, Option.map_some, id_eq, Option.some.injEq] at hp
     subst hp
     obtain ⟨k, h3, h4⟩ := ek_get e
     exact .inr ⟨fun z => q z.symm, k, h3, h4⟩
  refine ⟨m, rfl, _, _, hp, ?_, fun ev he hk => ?_, fun q => ?_⟩
  ·intro e he
   obtain ⟨i, p, h1, rfl⟩ := Ent_mem he
   rcases at_ h1 with ⟨_, rfl⟩ | ⟨_, k, _, rfl⟩ <;> rfl
  ·obtain ⟨i, p, h3, rfl⟩ := Ent_mem he
   rcases at_ h3 with ⟨_, rfl⟩ | ⟨q, k, h4, rfl⟩
   ·exact ⟨2, rfl, callMust (fun z => absurd z (by decide)) fun _ => ⟨List.mem_of_getElem? hj, rfl, f.trans (hput_fr _ _ _ _)⟩⟩
   ·exfalso
    have : k = t.l := mkB_eq.1 hk
    subst this
    exact q (nodup_inj hn h4 hj)
  ·exfalso
   refine q ⟨.string t.says, .int .i64 2, j⟩ (Array.mem_def.1 (Array.mem_of_getElem? (i := j) ?_)) rfl
   rw [Ent_get, List.getElem?_modify]
   have : (ek ks)[j]? = Option.some (.string (G.mkB t.l), .int .i64 1) := by simp [ek, hj]
   rw [this]
   simp
 refine ⟨m, rfl, _, _, hm1, ek_keys _, fun ev he hk => ?_, fun q => ?_⟩
 ·obtain ⟨j, p, h3, rfl⟩ := Ent_mem he
  obtain ⟨k, h4, rfl⟩ := ek_get h3
  have hk : k = t.l := mkB_eq.1 hk
  subst hk
  refine ⟨1, rfl, m, rfl, by omega, _, _, hm1, ek_keys _, fun j2 ev2 h5 h6 => ?_, fun q => ?_⟩
  ·rw [Ent_get] at h5
   cases e : (ek ks)[j2]? with
   | none => rw [e] at h5; cases h5
   | some p =>
    rw [e] at h5
    obtain ⟨k2, h7, rfl⟩ := ek_get e
    simp only [Option.map_some, Option.some.injEq] at h5
    subst h5
    have : k2 = t.l := mkB_eq.1 h6
    subst this
    exact some f1 hm1 h7
  ·exact (q _ he (mkB_eq.2 rfl)).elim
 ·have hni : t.l ∉ ks := by
   intro hin
   obtain ⟨j, hj⟩ := List.mem_iff_getElem?.1 hin
   refine q ⟨.string (G.mkB t.l), .int .i64 1, j⟩ (Array.mem_def.1 (Array.mem_of_getElem? (i := j) ?_)) (mkB_eq.2 rfl)
   rw [Ent_get]
   simp [ek, hj]
  refine ⟨m, rfl, by omega, _, _, hm1, ek_keys _, fun j2 ev2 h5 h6 => ?_, fun _ => none f1 hm1 hni⟩
  exact absurd h6 (q ev2 (Array.mem_def.1 (Array.mem_of_getElem? h5)))
end Go.Proofs.YtlflalecmhgmjaaGreatDoor.N
