/- Law 6: what the iterator of walk.Each hands out, gone over, left early, gone over again. Conditions: none. -/
import Derived.Test.YtmcloipjlihhlaaSEach
import Derived.Test.YtmcloipjlihhlaaNIter
import Derived.Test.YtmcloipjlihhlaaNBegunW
set_option linter.unusedVariables false
set_option linter.unusedSimpArgs false
namespace Go.Proofs.Ytmcloipjlihhlaa.N
open Go.X Go.Proofs.Ytmcloipjlihhlaa
set_option maxRecDepth 100000

theorem okEachF {g s : Int} {es : Es} (h : Heap) (gA : Option Addr) (gL gC : Nat) (H : Hp h [Ck.vw eP gA gL gC es]) : CallsH Try.prog 173 #[.agg #[.int .i64 g, .slice gA gL gC], .int .i64 s] h fun v h' =>
    ∃ (b : Nat) (oA : Option Addr) (oL oC : Nat) (bA : Option Addr) (bL bC : Nat) (fA : Option Addr) (fL fC : Nat) (lA : Option Addr) (lL lC : Nat),
      Sy h [] h' [Ck.ob b 113 [.slice oA oL oC, .slice bA bL bC, .slice fA fL fC, .slice lA lL lC], Ck.sl eI 3 oA oL oC (breadthR g es s).ord, Ck.sl eI 3 fA fL fC (breadthR g es s).far] ∧ v = .func (.func 217) #[] #[.pointer (some ⟨b, 0, none⟩)] := by
  have Y : Sy h [] h _ := Sy.startM H rfl
  obtain rfl := Y.lenV 0 rfl
  apply calls173
  unfold S173
  intro hv
  have hsz : h.size < hv.size := by simp [hv]
  have Y : Sy _ _ hv [_, _] := Y.junk _
  clear_value hv
  refine callX_sy (okBreadth (R := fun o _ f _ _ => o = (breadthR g es s).ord ∧ f = (breadthR g es s).far) ⟨rfl, rfl⟩ _ _ _ _ (Y.pick [0] rfl).hp) (fun _ _ ⟨_, _, _, _, _, _, _, _, _, _, _, _, _, _, _, _, _, p, _⟩ => p.fr) (allc (fun h => by cases h) alln) ?_
  rintro v hv2 ⟨raA, raL, raC, ra, raA2, raL2, raC2, ra_2, raA3, raL3, raC3, ra_3, raA4, raL4, raC4, ra_4, rb, PP, rfl, rfl, rfl⟩
  have hsz2 := PP.fr.size
  have Y : Sy _ _ hv2 [_, _, _, _, _, _] := Y.callV PP ⟨rfl, ⟨rfl, ⟨rfl, ⟨rfl, trivial⟩⟩⟩⟩
  clear PP
  refine ⟨_, _, _, _, _, _, _, _, _, _, _, _, rb, rfl, ?_⟩
  intro hv3
  have Y : Sy _ _ hv3 [_, _, _, _, _, _, _] := Y.newO (ty := 113) [.slice none 0 0, .slice none 0 0, .slice none 0 0, .slice none 0 0]
  clear_value hv3
  refine ⟨by omega, ⟨_, Y.cellO 6 rfl 0 rfl⟩, Y.freeO 6 rfl 0, ⟨_, Y.cellO 6 rfl 1 rfl⟩, Y.freeO 6 rfl 1, ⟨_, Y.cellO 6 rfl 2 rfl⟩, Y.freeO 6 rfl 2, ⟨_, Y.cellO 6 rfl 3 rfl⟩, Y.freeO 6 rfl 3, ?_⟩
  have Y : Sy _ _ _ [_, _, _, _, _, _, _] := ((((Y.stO 6 rfl 0 (.slice raA raL raC)).stO 6 rfl 1 (.slice raA2 raL2 raC2)).stO 6 rfl 2 (.slice raA3 raL3 raC3)).stO 6 rfl 3 (.slice raA4 raL4 raC4))
  exact ⟨_, _, _, _, _, _, _, _, _, _, _, _, _, Y.pick [6, 2, 4] rfl, rfl⟩
theorem fr_hset {a b : Heap} (f : Fr [] a b) {c o : Nat} (v : Value) (hc : c < a.size) : Fr [] (hset a c o v) (hset b c o v) := by
  refine ⟨by simpa using f.size, fun x hx _ => ?_⟩
  rw [size_hset] at hx
  have e := f.blk x hx (by simp)
  by_cases q : x = c
  · subst q
    simp only [hset, Array.getElem?_modify, if_pos rfl, e]
  · rw [hset_ne q, hset_ne q]; exact e
theorem shut_cell {B : Nat} {a b : Heap} (s : Shut B a b) {c o : Nat} {v : Value} (h : hcell a c o = some v) : hcell b c o = some v := by
  have e : b[c]? = a[c]? := s.2 c (.inr (by
    unfold hcell at h
    split at h
    · rename_i x t f hx; exact ⟨x, t, f, hx⟩
    · cases h))
  rw [hcell_congr e]; exact h
theorem shut_fr {h a b : Heap} (s : Shut h.size a b) (f : Fr [] h a) : Fr [] h b := ⟨by rw [s.1]; exact f.size, fun x hx hm => (s.2 x (.inl hx)).trans (f.blk x hx hm)⟩
theorem Sy.none {h a : Heap} (f : Fr [] h a) : Sy h [] a [] := ⟨f, Hp.nil a, fun k c hk => by simp at hk⟩
theorem handE_get {ord far : List Int} {j : Nat} {v f : Int} (h : (handE ord far)[j]? = some [.int .i64 v, .int .i64 f]) : ord[j]? = some v ∧ f = far.getD v.toNat 0 := by
  unfold handE at h
  rw [List.getElem?_map] at h
  cases hv : ord[j]? with
  | none => rw [hv] at h; cases h
  | some x =>
    rw [hv] at h
    simp only [Option.map_some, Option.some.injEq, List.cons.injEq, Value.int.injEq, true_and, and_true] at h
    exact ⟨by rw [h.1], by rw [← h.2, h.1]⟩
theorem breadthR_ok (g : Int) (es : Es) (s : Int) : (breadthR g es s).ord.Nodup ∧ (∀ v ∈ (breadthR g es s).ord, 0 ≤ v ∧ v < ((breadthR g es s).far.length : Int)) ∧ (breadthR g es s).ord.length ≤ 1000000 ∧ (breadthR g es s).far.length ≤ 1000000 := by
  unfold breadthR
  split
  · rename_i hf
    have q : mayB g es = true := by
      unfold faultyE at hf
      cases hm : mayB g es with
      | true => rfl
      | false => rw [hm] at hf; cases hf
    have hs : ¬ (s < 0 ∨ g ≤ s) := fun z => by
      unfold faultyE at hf
      rw [q, if_neg (by decide), if_pos z] at hf
      cases hf
    have m := mayN q
    have i := bfs_BI m (s := s) (by omega) (by omega)
    have g0 := m.g0
    have g1 := m.g1
    have hl := i.len
    have lf := i.lf
    refine ⟨i.nd, fun v hv => ?_, by omega, by omega⟩
    have := i.rng v hv
    omega
  · exact ⟨by simp, by simp, by simp, by simp⟩
theorem okEachL {g s : Int} {es : Es} {by' low : List Int} {h : Heap} {gA : Option Addr} {gL gC : Nat} {tA : Option Addr} {tL tC : Nat} {tA2 : Option Addr} {tL2 tC2 : Nat} {tA3 : Option Addr} {tL3 tC3 : Nat} {tA4 : Option Addr} {tL4 tC4 : Nat}
    (H : Hp h [Ck.vw eP gA gL gC es, Ck.vw eI tA tL tC (breadthR g es s).ord, Ck.vw eI tA2 tL2 tC2 by', Ck.vw eI tA3 tL3 tC3 (breadthR g es s).far, Ck.vw eI tA4 tL4 tC4 low]) :
    CallsH Try.prog 87 #[.agg #[.int .i64 g, .slice gA gL gC], .int .i64 s, .agg #[.slice tA tL tC, .slice tA2 tL2 tC2, .slice tA3 tL3 tC3, .slice tA4 tL4 tC4]] h fun v h' => Sy h [] h' [] ∧ v = .bool true := by
  obtain ⟨nd, rng, lo, lf⟩ := breadthR_ok g es s
  have hEach := fun (h : Heap) (gA : Option Addr) (gL gC : Nat) H => okEachF (g := g) (s := s) (es := es) h gA gL gC H
  generalize (breadthR g es s).ord = ord at *
  generalize (breadthR g es s).far = far at *
  have Y : Sy h [] h _ := Sy.startM H rfl
  have e1 := Y.lenV 1 rfl
  have e3 := Y.lenV 3 rfl
  subst e1 e3
  apply calls87
  unfold S87
  intro hv
  have Y : Sy _ _ hv [_, _, _, _, _, _] := Y.newO (ty := 26) [.int .i64 g, .slice gA gL gC]
  clear_value hv
  intro hv2
  have Y : Sy _ _ hv2 [_, _, _, _, _, _, _] := Y.newO (ty := 113) [.slice tA ord.length tC, .slice tA2 tL2 tC2, .slice tA3 far.length tC3, .slice tA4 tL4 tC4]
  clear_value hv2
  intro hv3
  have Y : Sy _ _ hv3 [_, _, _, _, _, _, _, _] := Y.newO (ty := 4) [.bool false]
  clear_value hv3
  refine ⟨_, Y.cellO 5 rfl 0 rfl, _, _, _, Y.cellO 5 rfl 1 rfl, ?_⟩
  refine callX_sy (hEach _ _ _ _ (Y.pick [0] rfl).hp) (fun _ _ ⟨_, _, _, _, _, _, _, _, _, _, _, _, _, p, _⟩ => p.fr) alln ?_
  rintro v hv4 ⟨b, oA, oL, oC, bA, bL, bC, fA, fL, fC, lA, lL, lC, PP, rfl⟩
  have Y : Sy _ _ hv4 [_, _, _, _, _, _, _, _, _, _, _] := Y.callV PP ⟨rfl, ⟨rfl, ⟨rfl, trivial⟩⟩⟩
  clear PP
  have e5 := Y.lenS 9 rfl
  have e6 := Y.lenS 10 rfl
  subst e5 e6
  refine ⟨_, _, _, rfl, (fun z => by cases z), fun _ => ?_⟩
  intro hv6
  have Y : Sy _ _ hv6 [_, _, _, _, _, _, _, _, _, _, _, _] := Y.newO (ty := 3) [.int .i64 0]
  clear_value hv6
  refine ⟨⟨_, Y.cellO 11 rfl 0 rfl⟩, Y.freeO 11 rfl 0, ?_⟩
  intro hv7
  have Y : Sy _ _ hv7 [_, _, _, _, _, _, _, _, _, _, _, _] := Y.stO 11 rfl 0 (.int .i64 0)
  clear_value hv7
  have Y := Y.pick [1, 3, 6, 7, 8, 9, 10, 11] rfl
  -- what stands at the head of a turn
  obtain ⟨cs, hcs⟩ : ∃ cs : Bool → Nat → Int → List Ck, cs = fun res tb turn => [Ck.vw eI tA ord.length tC ord, Ck.vw eI tA3 far.length tC3 far, Ck.ob hv.size 113 [.slice tA ord.length tC, .slice tA2 tL2 tC2, .slice tA3 far.length tC3, .slice tA4 tL4 tC4], Ck.ob hv2.size 4 [.bool res],
    Ck.ob b 113 [.slice oA ord.length oC, .slice bA bL bC, .slice fA far.length fC, .slice lA lL lC], Ck.sl eI 3 oA ord.length oC ord, Ck.sl eI 3 fA far.length fC far, Ck.ob tb 3 [.int .i64 turn]] := ⟨_, rfl⟩
  refine ⟨fun lz h' => ∃ (tb turn : Nat), lz = [.pointer (some ⟨tb, 0, none⟩)] ∧ turn ≤ 2 ∧ Sy h [] h' (cs false tb turn),
    fun lz h' => (match lz with | [.pointer (some a)] => (match hcell h' a.block 0 with | some (.int _ x) => (2 - x).toNat | _ => 0) | _ => 0), ⟨_, 0, rfl, by decide, by rw [hcs]; exact Y⟩, ?_⟩
  rintro _ hv8 ⟨tb, turn, e, hturn, Y⟩
  cases e
  rw [hcs] at Y
  have mAt : ∀ {hw : Heap} {t : Nat} {x : Int}, hcell hw t 0 = some (.int .i64 x) → (match ([.pointer (some (⟨t, 0, none⟩ : Addr))] : List Value) with | [.pointer (some a)] => (match hcell hw a.block 0 with | some (.int _ x) => (2 - x).toNat | _ => 0) | _ => 0) = (2 - x).toNat := fun hc => by
    simp only [hc]
  refine ⟨tb, 0, rfl, turn, Y.cellO 7 rfl 0 rfl, ?_⟩
  refine cnd_dec (fun hlt => ?_) fun _ => ?_
  · have hc8 := Y.cellO 7 rfl 0 rfl
    have hsb : b < hv8.size := blk_lt (Y.ok (k := 4) rfl)
    have hso : ∀ x ∈ rdOf oA ord.length, x < hv8.size := fun x hx => (Y.ok (k := 5) rfl : _ ∧ _).1.lt x (rdOf_sub hx)
    have hsf : ∀ x ∈ rdOf fA far.length, x < hv8.size := fun x hx => (Y.ok (k := 6) rfl : _ ∧ _).1.lt x (rdOf_sub hx)
    intro hv9
    have hs9 : hv9.size = hv8.size + 1 := by simp [hv9]
    have Y : Sy _ _ hv9 [_, _, _, _, _, _, _, _, _] := Y.newO (ty := 3) [.int .i64 0]
    clear_value hv9
    refine ⟨⟨_, Y.cellO 8 rfl 0 rfl⟩, Y.freeO 8 rfl 0, ?_⟩
    intro hv10
    have hs10 : hv10.size = hv8.size + 1 := by simp [hv10, hs9]
    have Y : Sy _ _ hv10 [_, _, _, _, _, _, _, _, _] := Y.stO 8 rfl 0 (.int .i64 0)
    clear_value hv10
    -- the next turn
    have next : ∀ (hw : Heap), Sy h [] hw (cs false tb turn) → ∃ b o, some (⟨tb, 0, none⟩ : Addr) = some ⟨b, o, none⟩ ∧ ∃ x : Int, hcell hw b o = some (.int .i64 x) ∧ let hw1 : Heap := hw.push (.cells #[.int .i64 0] 3)
        (∃ u, hcell hw1 hw.size 0 = some u) ∧ hfree hw1 hw.size 0 = true ∧ let hw2 : Heap := hset hw1 hw.size 0 (.int .i64 x)
        ∃ x2 : Int, hcell hw2 hw.size 0 = some (.int .i64 x2) ∧ (∃ u, hcell hw2 hw.size 0 = some u) ∧ hfree hw2 hw.size 0 = true ∧ let hw3 : Heap := hset hw2 hw.size 0 (.int .i64 (IntKind.i64.wrap (x2 + (1 : Int))))
        (∃ (tb' turn' : Nat), ([.pointer (some (⟨hw.size, 0, none⟩ : Addr))] : List Value) = [.pointer (some ⟨tb', 0, none⟩)] ∧ turn' ≤ 2 ∧ Sy h [] hw3 (cs false tb' turn')) ∧
          (match ([.pointer (some (⟨hw.size, 0, none⟩ : Addr))] : List Value) with | [.pointer (some a)] => (match hcell hw3 a.block 0 with | some (.int _ x) => (2 - x).toNat | _ => 0) | _ => 0) <
            (match ([.pointer (some (⟨tb, 0, none⟩ : Addr))] : List Value) with | [.pointer (some a)] => (match hcell hv8 a.block 0 with | some (.int _ x) => (2 - x).toNat | _ => 0) | _ => 0) := by
      intro hw Yw
      rw [hcs] at Yw
      refine ⟨tb, 0, rfl, turn, Yw.cellO 7 rfl 0 rfl, ?_⟩
      intro hw1
      have Yw : Sy _ _ hw1 [_, _, _, _, _, _, _, _, _] := Yw.newO (ty := 3) [.int .i64 0]
      clear_value hw1
      refine ⟨⟨_, Yw.cellO 8 rfl 0 rfl⟩, Yw.freeO 8 rfl 0, ?_⟩
      intro hw2
      have Yw : Sy _ _ hw2 [_, _, _, _, _, _, _, _, _] := Yw.stO 8 rfl 0 (.int .i64 turn)
      clear_value hw2
      refine ⟨turn, Yw.cellO 8 rfl 0 rfl, ⟨_, Yw.cellO 8 rfl 0 rfl⟩, Yw.freeO 8 rfl 0, ?_⟩
      intro hw3
      have Yw : Sy _ _ hw3 [_, _, _, _, _, _, _, _, _] := Yw.stO 8 rfl 0 (.int .i64 (IntKind.i64.wrap ((turn : Int) + 1)))
      clear_value hw3
      rw [wr (by omega) (by omega)] at Yw
      refine ⟨⟨hw.size, turn + 1, rfl, by omega, by rw [hcs]; exact Yw.pick [0, 1, 2, 3, 4, 5, 6, 8] rfl⟩, ?_⟩
      rw [mAt (Yw.cellO 8 rfl 0 rfl), mAt hc8]
      omega
    refine ⟨217, #[.pointer (some ⟨b, 0, none⟩)], rfl, rfl, handE ord far, [hv8.size], fun i h1 => Sy h [] h1 (cs false tb turn ++ [Ck.ob hv8.size 3 [.int .i64 i]]) ∧ ((turn : Int) = 0 → i ≤ 2), ?_, ?_, ⟨by rw [hcs]; exact Y, fun _ => by decide⟩, ?_, ?_⟩
    · intro x hx K hK
      unfold handE at hx
      obtain ⟨v, _, rfl⟩ := List.mem_map.1 hx
      exact hK v _
    · exact iter217 (by omega) (by simp; omega) (Y.cellO 4 rfl 0 rfl) (Y.cellO 4 rfl 2 rfl) (Y.readsS 5 rfl) (Y.readsS 6 rfl) (fun x hx => by have := hso x hx; exact ⟨by omega, by simp; omega⟩) (fun x hx => by have := hsf x hx; exact ⟨by omega, by simp; omega⟩) rng lo lf
    · intro i j h1 hv11 hi ⟨Y1, hI⟩ hsz hF v2 far2 hx
      rw [handE_len] at hi
      rw [hcs] at Y1
      have Y2 : Sy h [] hv11 [_, _, _, _, _, _, _, _, _] := Y1.gr hF
      obtain ⟨hv2', hfar⟩ := handE_get hx
      have hr2 := rng v2 (List.mem_of_getElem? hv2')
      intro k
      have hk : j ≠ i → k := fun hne => by
        refine ⟨⟨_, Y2.cellO 3 rfl 0 rfl⟩, Y2.freeO 3 rfl 0, ?_⟩
        intro hv12
        exact ⟨hset h1 hv2.size 0 (.bool false), by simpa using hsz, fr_hset hF _ (blk_lt (Y1.ok (k := 3) rfl)), fun e => absurd e hne⟩
      refine ⟨i, Y2.cellO 8 rfl 0 rfl, _, _, _, Y2.cellO 2 rfl 0 rfl, cnd_dec (fun q => by omega) fun _ => ?_⟩
      obtain ⟨b2, o2, hb2, _, x6, hx6⟩ := Y2.atV 0 rfl (i := (i : Int)) (by omega) (by omega)
      refine ⟨_, _, _, Y2.cellO 2 rfl 0 rfl, i, Y2.cellO 8 rfl 0 rfl, b2, o2, hb2, by omega, by omega, x6, Y2.cellV 0 rfl hb2 (t := 0) hx6 rfl, ?_⟩
      rw [Int.toNat_natCast] at hx6
      refine cnd_ne (fun q => hk fun e => q (by subst e; rw [hv2'] at hx6; exact Option.some.inj hx6)) fun q => ?_
      subst q
      have hji : j = i := nodup_inj nd hv2' hx6
      subst hji
      obtain ⟨b3, o3, hb3, _, x7, hx7⟩ := Y2.atV 1 rfl (i := v2) hr2.1 hr2.2
      refine ⟨_, _, _, Y2.cellO 2 rfl 2 rfl, b3, o3, hb3, hr2.1, hr2.2, x7, Y2.cellV 1 rfl hb3 (t := 0) hx7 rfl, ?_⟩
      refine cnd_ne (fun q => absurd (by rw [hfar, List.getD_eq_getElem?_getD, hx7]; rfl) q) fun _ => ?_
      refine ⟨j, Y2.cellO 8 rfl 0 rfl, ⟨_, Y2.cellO 8 rfl 0 rfl⟩, Y2.freeO 8 rfl 0, ?_⟩
      rw [wr (x := (j : Int) + 1) (by omega) (by omega), show (j : Int) + 1 = ((j + 1 : Nat) : Int) from rfl]
      intro hv14
      have lt8 : hv8.size < h1.size := by omega
      have F14 : Fr [hv8.size] hv11 hv14 := Fr.hset hv11 hv8.size 0 _
      have G14 : Fr [] (hset h1 hv8.size 0 (.int .i64 ((j + 1 : Nat) : Int))) hv14 := fr_hset hF _ lt8
      have Y3 : Sy h [] (hset h1 hv8.size 0 (.int .i64 ((j + 1 : Nat) : Int))) [_, _, _, _, _, _, _, _, _] := Y1.stO 8 rfl 0 (.int .i64 ((j + 1 : Nat) : Int))
      have Y4 : Sy h [] hv14 [_, _, _, _, _, _, _, _, _] := Y2.stO 8 rfl 0 (.int .i64 ((j + 1 : Nat) : Int))
      clear_value hv14
      have goOn : ((turn : Int) = 0 → j + 1 ≤ 2) → j = j ∧ Fr [hv8.size] hv11 hv14 ∧ ∃ h2 : Heap, h2.size = hv10.size ∧ Fr [] h2 hv14 ∧ (Sy h [] h2 (cs false tb turn ++ [Ck.ob hv8.size 3 [.int .i64 ((j + 1 : Nat) : Int)]]) ∧ ((turn : Int) = 0 → j + 1 ≤ 2)) :=
        fun z => ⟨rfl, F14, _, by simpa using hsz, G14, by rw [hcs]; exact Y3, z⟩
      refine ⟨tb, 0, rfl, turn, Y4.cellO 7 rfl 0 rfl, cnd_eq (fun t0 => ?_) fun t0 => goOn fun z => absurd z t0⟩
      refine ⟨_, Y4.cellO 8 rfl 0 rfl, cnd_eq (fun q3 => ?_) fun q3 => goOn fun z => by have := hI z; omega⟩
      refine ⟨_, by simpa using hsz, G14, fun _ hw3 hF3 => ?_⟩
      have Y5 : Sy h [] hw3 [_, _, _, _, _, _, _, _, _] := Y3.gr hF3
      have nx := next hw3 (by rw [hcs]; exact Y5.pick [0, 1, 2, 3, 4, 5, 6, 7] rfl)
      refine ⟨_, Y5.cellO 8 rfl 0 rfl, _, _, _, Y5.cellO 2 rfl 0 rfl, cnd_ne (fun _ => ⟨tb, 0, rfl, turn, Y5.cellO 7 rfl 0 rfl, cnd_dec (fun z => by omega) fun _ => ⟨_, Y5.cellO 8 rfl 0 rfl, cnd_ne (fun z => absurd q3 z) fun _ => nx⟩⟩) fun _ => nx⟩
    · intro h1 hv23 ⟨Y1, hI⟩ hsz hF
      rw [hcs, handE_len] at Y1
      have Y2 : Sy h [] hv23 [_, _, _, _, _, _, _, _, _] := Y1.gr hF
      refine ⟨_, Y2.cellO 8 rfl 0 rfl, _, _, _, Y2.cellO 2 rfl 0 rfl, cnd_ne (fun q => absurd rfl q) fun _ => next hv23 (by rw [hcs]; exact Y2.pick [0, 1, 2, 3, 4, 5, 6, 7] rfl)⟩
  · refine ⟨⟨_, Y.cellO 3 rfl 0 rfl⟩, Y.freeO 3 rfl 0, ?_⟩
    intro hv32
    have Y : Sy _ _ hv32 [_, _, _, _, _, _, _, _] := Y.stO 3 rfl 0 (.bool true)
    intro hz hsh
    exact ⟨true, shut_cell hsh (Y.cellO 3 rfl 0 rfl), Sy.none (shut_fr hsh Y.fr), rfl⟩
end Go.Proofs.Ytmcloipjlihhlaa.N
