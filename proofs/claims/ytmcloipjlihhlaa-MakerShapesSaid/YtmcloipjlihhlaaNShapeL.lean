/- The law of shapes. Conditions: none. -/
import Derived.Test.YtmcloipjlihhlaaNShapes
namespace Go.Proofs.Ytmcloipjlihhlaa.N
open Go.X Go.Proofs.Ytmcloipjlihhlaa Go.Proofs.Ytmcloipjlihhlaa.N.M
set_option maxRecDepth 100000

theorem size_ok1 {least x n m : Int} (h1 : least ≤ x) (h2 : x ≤ 3072) (h3 : n ≤ 1024) (h4 : m ≤ 3072) : sizeE least [x] n m = 0 := by
  unfold sizeE
  have a : ([x] : List Int).any (fun x => decide (x < least)) = false := by simp; omega
  have b : ([x] : List Int).any (fun x => decide (x > 3072)) = false := by simp; omega
  rw [a, b, if_neg (by decide), if_neg (by decide), if_neg (by omega), if_neg (by omega)]
theorem size_ok2 {least x y n m : Int} (h1 : least ≤ x) (h2 : x ≤ 3072) (h5 : least ≤ y) (h6 : y ≤ 3072) (h3 : n ≤ 1024) (h4 : m ≤ 3072) : sizeE least [x, y] n m = 0 := by
  unfold sizeE
  have a : ([x, y] : List Int).any (fun x => decide (x < least)) = false := by simp; omega
  have b : ([x, y] : List Int).any (fun x => decide (x > 3072)) = false := by simp; omega
  rw [a, b, if_neg (by decide), if_neg (by decide), if_neg (by omega), if_neg (by omega)]
theorem okBegunM {R : Bool → Prop} (h : R true) : Ok27 R := by
  apply ok27
  unfold T27
  have s1 : sizeE 1 [3] 3 3 = 0 := by decide
  have s2 : sizeE 1 [2, 2] (prodM 2 2) (gridM 2 2) = 0 := by decide
  have s3 : sizeE 1 [79] 79 (compM 79) = 3 := by decide
  refine okCycle (fun q => absurd s1 q) fun _ => okGrid (fun q => absurd s2 q) fun _ => okComplete (fun _ => ?_) fun q => absurd (s3.symm.trans q) (by decide)
  rw [s3]
  have l1 : (ringE 0 (Int.toNat 3)).length = 3 := by decide
  have l2 : (gridE (Int.toNat 2) (Int.toNat 2)).length = 4 := by decide
  rw [l1, l2]
  exact cnd_eq (fun _ => cnd_eq (fun _ => cnd_eq (fun _ => cnd_eq (fun _ => h) fun q => absurd rfl q) fun q => absurd rfl q) fun q => absurd rfl q) fun q => absurd rfl q
/-- One of the nets of the list. -/
structure Item (h0 : Heap) (cs : List Ck) (b : Nat) (i : Nat) : Prop where
  ex : ∃ (g : Int) (A : Option Addr) (L C : Nat) (es : Es), NetOK g es ∧ (∀ h', Sy h0 [] h' cs → hcell h' b (0 + i * 2) = some (.int .i64 g) ∧ hcell h' b (0 + i * 2 + 1) = some (.slice A L C) ∧ Hp h' [Ck.vw eP A L C es])
theorem okShapesL {n m : Int} {h : Heap} : CallsH Try.prog 4 #[.int .i64 n, .int .i64 m] h fun v h' => ∃ r : Bool, Sy h [] h' [] ∧ v = .bool r ∧ r = true := by
  apply calls4
  unfold S4
  have Y : Sy h [] h [] := Sy.startM (Hp.nil _) rfl
  refine callX_sy (okBegunM (R := fun b => b = true) rfl _ (Hp.nil _)) (fun _ _ ⟨_, p, _⟩ => p.fr) alln ?_
  rintro v hv ⟨r, PP, rfl, rfl⟩
  have Y : Sy _ _ hv [] := Y.gr PP.fr
  clear PP
  refine ⟨true, rfl, cnd_not (fun q => by cases q) fun _ => cnd_dec (fun _ => ⟨_, Y, rfl, rfl⟩) fun n1 => cnd_dec (fun _ => ⟨_, Y, rfl, rfl⟩) fun n2 => cnd_dec (fun _ => ⟨_, Y, rfl, rfl⟩) fun m1 => cnd_dec (fun _ => ⟨_, Y, rfl, rfl⟩) fun m2 => ?_⟩
  obtain ⟨N, rfl⟩ : ∃ N : Nat, n = N := ⟨n.toNat, by omega⟩
  obtain ⟨M, rfl⟩ : ∃ M : Nat, m = M := ⟨m.toNat, by omega⟩
  have hNM : N * M ≤ 40 * 20 := Nat.mul_le_mul (by omega) (by omega)
  have cNM : (N : Int) * M = ((N * M : Nat) : Int) := (Int.natCast_mul _ _).symm
  have em : minN N = N := by unfold minN; rw [if_neg (by omega)]
  have hNN : N * (N - 1) ≤ 40 * 39 := Nat.mul_le_mul (by omega) (by omega)
  have cNN : (N : Int) * ((N : Int) - 1) = ((N * (N - 1) : Nat) : Int) := by rw [Int.natCast_mul, show ((N - 1 : Nat) : Int) = (N : Int) - 1 by omega]
  have tNN : Int.tdiv ((N * (N - 1) : Nat) : Int) 2 = ((N * (N - 1) / 2 : Nat) : Int) := by
    rw [Int.tdiv_eq_ediv_of_nonneg (by omega)]; omega
  have ecomp : compM N = ((N * (N - 1) / 2 : Nat) : Int) := by
    unfold compM
    rw [if_pos (by omega), wr (x := (N : Int) - 1) (by omega) (by omega), cNN, wr (x := ((N * (N - 1) : Nat) : Int)) (by omega) (by omega), tNN, wr (by omega) (by omega)]
  have eprod : prodM N M = ((N * M : Nat) : Int) := by unfold prodM; rw [if_neg (by omega), cNM, wr (by omega) (by omega)]
  have etwo : twoN N M = N + M := by unfold twoN; rw [if_pos (by omega), wr (by omega) (by omega)]
  have hg1 : M * (N - 1) ≤ 20 * 39 := Nat.mul_le_mul (by omega) (by omega)
  have hg2 : (M - 1) * N ≤ 19 * 40 := Nat.mul_le_mul (by omega) (by omega)
  have egrid : gridM N M = ((M * (N - 1) + (M - 1) * N : Nat) : Int) := by
    unfold gridM
    rw [wr (x := (N : Int) - 1) (by omega) (by omega), wr (x := (M : Int) - 1) (by omega) (by omega)]
    have a : prodM ((N : Int) - 1) M = ((M * (N - 1) : Nat) : Int) := by
      unfold prodM
      rw [if_neg (by omega), show (N : Int) - 1 = ((N - 1 : Nat) : Int) by omega, ← Int.natCast_mul, Nat.mul_comm (N - 1), wr (by omega) (by omega)]
    have b : prodM N ((M : Int) - 1) = (((M - 1) * N : Nat) : Int) := by
      unfold prodM
      rw [if_neg (by omega), show (M : Int) - 1 = ((M - 1 : Nat) : Int) by omega, ← Int.natCast_mul, Nat.mul_comm N, wr (by omega) (by omega)]
    rw [a, b, wr (by omega) (by omega), Int.natCast_add]
  have z1 : sizeE 1 [(N : Int)] N N = 0 := size_ok1 (by omega) (by omega) (by omega) (by omega)
  have z2 : sizeE 3 [(N : Int)] (IntKind.i64.wrap (minN N + 1)) (IntKind.i64.wrap (2 * minN N)) = 0 := by
    rw [em, wr (x := (N : Int) + 1) (by omega) (by omega), wr (by omega) (by omega)]
    exact size_ok1 (by omega) (by omega) (by omega) (by omega)
  have z3 : sizeE 3 [(N : Int)] (IntKind.i64.wrap (2 * minN N)) (IntKind.i64.wrap (3 * minN N)) = 0 := by
    rw [em, wr (x := 2 * (N : Int)) (by omega) (by omega), wr (by omega) (by omega)]
    exact size_ok1 (by omega) (by omega) (by omega) (by omega)
  have z4 : sizeE 1 [(N : Int)] N (compM N) = 0 := by
    rw [ecomp]
    exact size_ok1 (by omega) (by omega) (by omega) (by omega)
  have z5 : sizeE 1 [(N : Int), (M : Int)] (twoN N M) (prodM N M) = 0 := by
    rw [etwo, eprod]
    exact size_ok2 (by omega) (by omega) (by omega) (by omega) (by omega) (by omega)
  have z6 : sizeE 1 [(N : Int), (M : Int)] (prodM N M) (gridM N M) = 0 := by
    rw [eprod, egrid]
    exact size_ok2 (by omega) (by omega) (by omega) (by omega) (by omega) (by omega)
  have nt1 := cycle_net (n := N) (by omega) (by omega)
  have nt2 := wheel_net (n := N) (by omega) (by omega)
  have nt3 := prism_net (n := N) (by omega) (by omega)
  have nt4 := comp_net (n := N) (by omega) (by omega)
  have nt5 := two_net (a := N) (b := M) (by omega) (by omega) (by omega) (by omega)
  have nt6 := grid_net (w := N) (h := M) (by omega) (by omega) (by omega) (by omega)
  have tn : ∀ k : Nat, Int.toNat (k : Int) = k := fun k => Int.toNat_natCast k
  -- the six nets
  refine callX_sy (okCycle (R := fun k es _ => k = (N : Int) ∧ es = ringE 0 N) (fun q => absurd z1 q) (fun _ => ⟨rfl, by rw [tn]⟩) _ (Hp.nil _)) (fun _ _ ⟨_, _, _, _, _, _, p, _⟩ => p.fr) alln ?_
  rintro v2 hv2 ⟨ra, raA, raL, raC, e1, rb, PP, rfl, rfl, rfl⟩
  have Y : Sy _ _ hv2 [_] := Y.callV PP ⟨rfl, trivial⟩
  clear PP
  obtain rfl := Y.lenS 0 rfl
  refine ⟨_, _, _, _, rb, rfl, ?_⟩
  intro hv3
  have Y : Sy _ _ hv3 [_, _] := Y.junk _
  clear_value hv3
  intro hv4
  have Y : Sy _ _ hv4 [_, _] := ((Y.stJ 1 rfl _ _).stJ 1 rfl _ _)
  clear_value hv4
  refine callX_sy (okWheel (R := fun k es _ => k = (N : Int) + 1 ∧ es = wheelE N) (fun q => absurd z2 q) (fun _ => ⟨rfl, by rw [tn]⟩) _ (Hp.nil _)) (fun _ _ ⟨_, _, _, _, _, _, p, _⟩ => p.fr) (allc (fun h => by cases h) alln) ?_
  rintro v3 hv5 ⟨ra2, raA2, raL2, raC2, e2, rb2, PP, rfl, rfl, rfl⟩
  have Y : Sy _ _ hv5 [_, _, _] := Y.callV PP ⟨rfl, trivial⟩
  clear PP
  obtain rfl := Y.lenS 2 rfl
  refine ⟨_, _, _, _, rb2, rfl, ?_⟩
  intro hv6
  have Y : Sy _ _ hv6 [_, _, _, _] := Y.junk _
  clear_value hv6
  intro hv7
  have Y : Sy _ _ hv7 [_, _, _, _] := ((Y.stJ 3 rfl _ _).stJ 3 rfl _ _)
  clear_value hv7
  refine callX_sy (okPrism (R := fun k es _ => k = 2 * (N : Int) ∧ es = prismE N) (fun q => absurd z3 q) (fun _ => ⟨rfl, by rw [tn]⟩) _ (Hp.nil _)) (fun _ _ ⟨_, _, _, _, _, _, p, _⟩ => p.fr) (allc (fun h => by cases h) (allc (fun h => by cases h) alln)) ?_
  rintro v4 hv8 ⟨ra3, raA3, raL3, raC3, e3, rb3, PP, rfl, rfl, rfl⟩
  have Y : Sy _ _ hv8 [_, _, _, _, _] := Y.callV PP ⟨rfl, trivial⟩
  clear PP
  obtain rfl := Y.lenS 4 rfl
  refine ⟨_, _, _, _, rb3, rfl, ?_⟩
  intro hv9
  have Y : Sy _ _ hv9 [_, _, _, _, _, _] := Y.junk _
  clear_value hv9
  intro hv10
  have Y : Sy _ _ hv10 [_, _, _, _, _, _] := ((Y.stJ 5 rfl _ _).stJ 5 rfl _ _)
  clear_value hv10
  refine callX_sy (okComplete (R := fun k es _ => k = (N : Int) ∧ es = compE N) (fun q => absurd z4 q) (fun _ => ⟨rfl, by rw [tn]⟩) _ (Hp.nil _)) (fun _ _ ⟨_, _, _, _, _, _, p, _⟩ => p.fr) (allc (fun h => by cases h) (allc (fun h => by cases h) (allc (fun h => by cases h) alln))) ?_
  rintro v5 hv11 ⟨ra4, raA4, raL4, raC4, e4, rb4, PP, rfl, rfl, rfl⟩
  have Y : Sy _ _ hv11 [_, _, _, _, _, _, _] := Y.callV PP ⟨rfl, trivial⟩
  clear PP
  obtain rfl := Y.lenS 6 rfl
  refine ⟨_, _, _, _, rb4, rfl, ?_⟩
  intro hv12
  have Y : Sy _ _ hv12 [_, _, _, _, _, _, _, _] := Y.junk _
  clear_value hv12
  intro hv13
  have Y : Sy _ _ hv13 [_, _, _, _, _, _, _, _] := ((Y.stJ 7 rfl _ _).stJ 7 rfl _ _)
  clear_value hv13
  refine callX_sy (okTwo (R := fun k es _ => k = (N : Int) + M ∧ es = twoE N M) (fun q => absurd z5 q) (fun _ => ⟨rfl, by rw [tn, tn]⟩) _ (Hp.nil _)) (fun _ _ ⟨_, _, _, _, _, _, p, _⟩ => p.fr) (allc (fun h => by cases h) (allc (fun h => by cases h) (allc (fun h => by cases h) (allc (fun h => by cases h) alln)))) ?_
  rintro v6 hv14 ⟨ra5, raA5, raL5, raC5, e5, rb5, PP, rfl, rfl, rfl⟩
  have Y : Sy _ _ hv14 [_, _, _, _, _, _, _, _, _] := Y.callV PP ⟨rfl, trivial⟩
  clear PP
  obtain rfl := Y.lenS 8 rfl
  refine ⟨_, _, _, _, rb5, rfl, ?_⟩
  intro hv15
  have Y : Sy _ _ hv15 [_, _, _, _, _, _, _, _, _, _] := Y.junk _
  clear_value hv15
  intro hv16
  have Y : Sy _ _ hv16 [_, _, _, _, _, _, _, _, _, _] := ((Y.stJ 9 rfl _ _).stJ 9 rfl _ _)
  clear_value hv16
  refine callX_sy (okGrid (R := fun k es _ => k = (N : Int) * M ∧ es = gridE N M) (fun q => absurd z6 q) (fun _ => ⟨rfl, by rw [tn, tn]⟩) _ (Hp.nil _)) (fun _ _ ⟨_, _, _, _, _, _, p, _⟩ => p.fr) (allc (fun h => by cases h) (allc (fun h => by cases h) (allc (fun h => by cases h) (allc (fun h => by cases h) (allc (fun h => by cases h) alln))))) ?_
  rintro v7 hv17 ⟨ra6, raA6, raL6, raC6, e6, rb6, PP, rfl, rfl, rfl⟩
  have Y : Sy _ _ hv17 [_, _, _, _, _, _, _, _, _, _, _] := Y.callV PP ⟨rfl, trivial⟩
  clear PP
  obtain rfl := Y.lenS 10 rfl
  refine ⟨_, _, _, _, rb6, rfl, ?_⟩
  intro hv18
  have Y : Sy _ _ hv18 [_, _, _, _, _, _, _, _, _, _, _, _] := Y.junk _
  clear_value hv18
  intro hv19
  have Y : Sy _ _ hv19 [_, _, _, _, _, _, _, _, _, _, _, _] := ((Y.stJ 11 rfl _ _).stJ 11 rfl _ _)
  clear_value hv19
  refine callX_sy (okLookS (R := fun _ _ a b _ => a = 3 ∧ b = 3) nt3.may nt3.simple (fun a b hab => hab 3 (by omega) fun v hv => prism_deg (by omega) (by omega)) _ _ _ _ ((Y.turn 4 rfl To.slvw).pick [4] rfl).hp) (fun _ _ ⟨_, _, _, _, _, p, _⟩ => p.fr) (allc (fun h => by cases h) (allc (fun h => by cases h) (allc (fun h => by cases h) (allc (fun h => by cases h) (allc (fun h => by cases h) (allc (fun h => by cases h) alln)))))) ?_
  rintro v8 hv20 ⟨r2, r3, r4, r5, r6, PP, rfl, rfl, rfl⟩
  have Y : Sy _ _ hv20 [_, _, _, _, _, _, _, _, _, _, _, _] := Y.gr PP.fr
  clear PP
  refine ⟨r2, r3, _, _, r6, rfl, ?_⟩
  intro hv21
  have Y : Sy _ _ hv21 [_, _, _, _, _, _, _, _, _, _, _, _, _] := Y.junk _
  clear_value hv21
  intro hv22
  have Y : Sy _ _ hv22 [_, _, _, _, _, _, _, _, _, _, _, _, _] := (((((Y.stJ 12 rfl _ _).stJ 12 rfl _ _).stJ 12 rfl _ _).stJ 12 rfl _ _).stJ 12 rfl _ _)
  clear_value hv22
  intro hv23
  have Y : Sy _ _ hv23 [_, _, _, _, _, _, _, _, _, _, _, _, _, _] := Y.newO (ty := 26) [.int .i64 (N : Int), .slice raA (ringE 0 N).length raC, .int .i64 ((N : Int) + 1), .slice raA2 (wheelE N).length raC2, .int .i64 (2 * (N : Int)), .slice raA3 (prismE N).length raC3, .int .i64 (N : Int), .slice raA4 (compE N).length raC4, .int .i64 ((N : Int) + M), .slice raA5 (twoE N M).length raC5, .int .i64 ((N : Int) * M), .slice raA6 (gridE N M).length raC6]
  clear_value hv23
  obtain ⟨CS, hCS⟩ : ∃ CS, CS = [Ck.sl eP 35 raA (ringE 0 N).length raC (ringE 0 N), Ck.junk hv2.size, Ck.sl eP 35 raA2 (wheelE N).length raC2 (wheelE N), Ck.junk hv5.size, Ck.sl eP 35 raA3 (prismE N).length raC3 (prismE N), Ck.junk hv8.size, Ck.sl eP 35 raA4 (compE N).length raC4 (compE N), Ck.junk hv11.size, Ck.sl eP 35 raA5 (twoE N M).length raC5 (twoE N M), Ck.junk hv14.size, Ck.sl eP 35 raA6 (gridE N M).length raC6 (gridE N M), Ck.junk hv17.size, Ck.junk hv20.size,
    Ck.ob hv22.size 26 [.int .i64 (N : Int), .slice raA (ringE 0 N).length raC, .int .i64 ((N : Int) + 1), .slice raA2 (wheelE N).length raC2, .int .i64 (2 * (N : Int)), .slice raA3 (prismE N).length raC3, .int .i64 (N : Int), .slice raA4 (compE N).length raC4, .int .i64 ((N : Int) + M), .slice raA5 (twoE N M).length raC5, .int .i64 ((N : Int) * M), .slice raA6 (gridE N M).length raC6]] := ⟨_, rfl⟩
  have Y : Sy h [] hv23 CS := by rw [hCS]; exact Y
  have items : ∀ i : Nat, i < 6 → Item h CS hv22.size i := fun i hi => by
    subst hCS
    match i, hi with
    | 0, _ => exact ⟨_, _, _, _, _, nt1, fun h' Y => ⟨Y.cellO 13 rfl 0 rfl, Y.cellO 13 rfl 1 rfl, ((Y.turn 0 rfl To.slvw).pick [0] rfl).hp⟩⟩
    | 1, _ => exact ⟨_, _, _, _, _, nt2, fun h' Y => ⟨Y.cellO 13 rfl 2 rfl, Y.cellO 13 rfl 3 rfl, ((Y.turn 2 rfl To.slvw).pick [2] rfl).hp⟩⟩
    | 2, _ => exact ⟨_, _, _, _, _, nt3, fun h' Y => ⟨Y.cellO 13 rfl 4 rfl, Y.cellO 13 rfl 5 rfl, ((Y.turn 4 rfl To.slvw).pick [4] rfl).hp⟩⟩
    | 3, _ => exact ⟨_, _, _, _, _, nt4, fun h' Y => ⟨Y.cellO 13 rfl 6 rfl, Y.cellO 13 rfl 7 rfl, ((Y.turn 6 rfl To.slvw).pick [6] rfl).hp⟩⟩
    | 4, _ => exact ⟨_, _, _, _, _, nt5, fun h' Y => ⟨Y.cellO 13 rfl 8 rfl, Y.cellO 13 rfl 9 rfl, ((Y.turn 8 rfl To.slvw).pick [8] rfl).hp⟩⟩
    | 5, _ => exact ⟨_, _, _, _, _, nt6, fun h' Y => ⟨Y.cellO 13 rfl 10 rfl, Y.cellO 13 rfl 11 rfl, ((Y.turn 10 rfl To.slvw).pick [10] rfl).hp⟩⟩
  have hgone : ∀ b ∈ [hv2.size, hv5.size, hv8.size, hv11.size, hv14.size, hv17.size, hv20.size], b ∉ ([] : List Nat) := fun b _ hb => by cases hb
  refine ⟨fun l h' => ∃ i : Nat, l = [.int .i64 (i : Int)] ∧ i ≤ 6 ∧ Sy h [] h' CS, fun l _ => match l with | .int _ x :: _ => (6 - x).toNat | _ => 0, ⟨0, rfl, by omega, Y⟩, ?_⟩
  rintro i hv24 ⟨k, e, hk, Y⟩
  have e : i = (k : Int) := by simpa using e
  subst e
  refine cnd_dec (fun hlt => ?_) fun hlt => ?_
  · obtain ⟨g, A, L, C, es, nt, hc⟩ := (items k (by omega)).ex
    obtain ⟨c1, c2, hp⟩ := hc hv24 Y
    refine ⟨hv22.size, 0, rfl, by omega, by omega, g, by rw [Int.toNat_natCast]; exact c1, A, L, C, by rw [Int.toNat_natCast]; exact c2, ?_⟩
    have hp3 : Hp hv24 [Ck.vw eP A L C es, Ck.vw eB none 0 0 [], Ck.vw eB none 0 0 []] := by
      have Z : Sy hv24 [] hv24 [Ck.vw eP A L C es] := Sy.startM hp rfl
      have Z : Sy _ _ hv24 [_, _] := Z.nilS eB 4
      have Z : Sy _ _ hv24 [_, _, _] := Z.nilS eB 4
      exact (((Z.turn 1 rfl To.slvw).turn 2 rfl To.slvw).pick [0, 1, 2] rfl).hp
    refine callX_sy (okPartsR nt.may (R := fun _ k => k = 1) (by rw [nt.one]; rfl) _ _ _ _ _ _ _ _ _ _ hp3 rfl rfl) (fun _ _ ⟨_, _, _, _, _, p, _⟩ => p.fr) hgone ?_
    rintro v9 hv25 ⟨raA7, raL7, raC7, ra7, rb7, PP, rfl, rfl⟩
    have Y25 : Sy h [] hv25 CS := Y.gr PP.fr
    refine ⟨_, _, _, _, rfl, cnd_ne (fun q => absurd rfl q) fun _ => ?_⟩
    obtain ⟨d1, d2, hp2⟩ := hc hv25 Y25
    refine ⟨hv22.size, 0, rfl, by omega, by omega, g, by rw [Int.toNat_natCast]; exact d1, A, L, C, by rw [Int.toNat_natCast]; exact d2, ?_⟩
    refine callX_sy (okLookS (R := fun _ _ _ _ s => s = true) nt.may nt.simple (fun _ _ _ => rfl) _ _ _ _ hp2) (fun _ _ ⟨_, _, _, _, _, p, _⟩ => p.fr) hgone ?_
    rintro v10 hv26 ⟨r7, r8, r9, r10, r11, PP2, rfl, rfl⟩
    have Y26 : Sy h [] hv26 CS := Y25.gr PP2.fr
    refine ⟨_, _, _, _, _, rfl, cnd_not (fun q => by cases q) fun _ => ?_⟩
    rw [wr (by omega) (by omega)]
    exact ⟨⟨k + 1, by simp, by omega, Y26⟩, by dsimp only; omega⟩
  · have f1 : ((ringE 0 N).length : Int) = N := by rw [ringE_len _ _ (by omega)]
    have f2 : ((wheelE N).length : Int) = IntKind.i64.wrap (2 * (N : Int)) := by rw [wheel_len (by omega), wr (by omega) (by omega)]; omega
    have f3 : (N : Int) + 1 = IntKind.i64.wrap ((N : Int) + 1) := by rw [wr (by omega) (by omega)]
    have f4 : ((prismE N).length : Int) = IntKind.i64.wrap (3 * (N : Int)) := by rw [prism_len (by omega), wr (by omega) (by omega)]; omega
    have f5 : ((compE N).length : Int) = IntKind.i64.wrap (Int.tdiv (IntKind.i64.wrap ((N : Int) * IntKind.i64.wrap ((N : Int) - 1))) 2) := by
      rw [comp_len N (by omega), wr (x := (N : Int) - 1) (by omega) (by omega), cNN, wr (x := ((N * (N - 1) : Nat) : Int)) (by omega) (by omega), tNN, wr (by omega) (by omega)]
    have f6 : ((twoE N M).length : Int) = IntKind.i64.wrap ((N : Int) * M) := by rw [two_len, cNM, wr (by omega) (by omega)]
    have f7 : ((gridE N M).length : Int) = IntKind.i64.wrap (IntKind.i64.wrap (IntKind.i64.wrap (IntKind.i64.wrap (2 * (N : Int)) * M) - N) - M) := by
      have a1 : (2 * (N : Int)) * M = 2 * ((N * M : Nat) : Int) := by rw [Int.mul_assoc, cNM]
      have a2 : ((M * (N - 1) : Nat) : Int) = ((N * M : Nat) : Int) - M := by
        have : M * (N - 1) + M = N * M := by
          have h := Nat.mul_add M (N - 1) 1
          rw [Nat.mul_one, show N - 1 + 1 = N by omega, Nat.mul_comm M N] at h
          omega
        omega
      have a3 : (((M - 1) * N : Nat) : Int) = ((N * M : Nat) : Int) - N := by
        have : (M - 1) * N + N = N * M := by
          have h := Nat.add_mul (M - 1) 1 N
          rw [Nat.one_mul, show M - 1 + 1 = M by omega, Nat.mul_comm M N] at h
          omega
        omega
      rw [grid_len (by omega) (by omega), wr (x := 2 * (N : Int)) (by omega) (by omega), a1, wr (x := 2 * ((N * M : Nat) : Int)) (by omega) (by omega), wr (x := 2 * ((N * M : Nat) : Int) - N) (by omega) (by omega), wr (by omega) (by omega), Int.natCast_add, a2, a3]
      omega
    refine cnd_eq (fun _ => cnd_eq (fun _ => cnd_eq (fun _ => cnd_eq (fun _ => cnd_eq (fun _ => cnd_eq (fun _ => ⟨by decide, cnd_eq (fun _ => cnd_eq (fun _ => ?_) fun q => absurd f6 q) fun q => absurd f5 q⟩) fun q => absurd rfl q) fun q => absurd rfl q) fun q => absurd f4 q) fun q => absurd f3 q) fun q => absurd f2 q) fun q => absurd f1 q
    exact ⟨_, Y.pick [] rfl, rfl, by rw [← f7]; simp⟩
end Go.Proofs.Ytmcloipjlihhlaa.N
namespace Go.Proofs.Ytmcloipjlihhlaa
open Go.X in
theorem MakerShapes_ok {n m : Int} {h : Heap} (_ : Hp h []) : CallsH Try.prog 4 #[.int .i64 n, .int .i64 m] h fun v h' => Fr [] h h' ∧ v = .bool true :=
  N.okShapesL.mono fun _ _ ⟨_, Y, e, q⟩ => ⟨Y.fr, q ▸ e⟩
end Go.Proofs.Ytmcloipjlihhlaa
