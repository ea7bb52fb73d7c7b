/- A number's digits written into a buffer: numDigits, formatBase10, setDigits. Conditions: none. -/
import Derived.Test.YtfjflbapojgbhaaGreatDoorWShort
namespace Go.Proofs.YtfjflbapojgbhaaGreatDoor.N
open Go.X Go.Proofs.YtfjflbapojgbhaaGreatDoor
set_option maxRecDepth 100000
set_option maxHeartbeats 1000000

/-- How many digits. -/
def ndg (d : Nat) : Nat := if d = 0 then 0 else Lib.nDigits d
theorem tU_at : ∀ k : Fin 20, tU[k.val]? = some ((10 ^ k.val : Nat) : Int) := by decide +kernel
theorem ok67' {d : Nat} (hd : d < 18446744073709551616) {R : Int → Prop} (r : R (ndg d : Int)) : Ok67 d R := by
  apply ok67
  unfold T67
  refine ok64' (by omega) (by omega) ?_
  have e : bl (d : Int) = ((Lib.bitLen d : Nat) : Int) := rfl
  have key : Lib.l10 (Lib.bitLen d) ≤ 19 ∧ Lib.bitLen d ≤ 64 ∧ Lib.l10 (Lib.bitLen d) + (if 10 ^ Lib.l10 (Lib.bitLen d) ≤ d then 1 else 0) = ndg d := by
    have h64 : Lib.bitLen d ≤ 64 := Lib.bitLen_le d 64 (Nat.le_refl _) hd
    by_cases h0 : d = 0
    · subst h0; decide
    · have := Lib.numDigits_eq d (by omega) hd
      unfold ndg
      rw [if_neg h0]
      exact ⟨this.2, h64, this.1⟩
  obtain ⟨k1, k2, k3⟩ := key
  rw [e]
  refine ok68' (by omega) (by omega) ?_
  have e2 : l10 ((Lib.bitLen d : Nat) : Int) = ((Lib.l10 (Lib.bitLen d) : Nat) : Int) := by unfold l10 Lib.l10; omega
  rw [e2]
  refine ⟨by omega, by omega, ((10 ^ Lib.l10 (Lib.bitLen d) : Nat) : Int), ?_, ?_⟩
  · rw [show ((Lib.l10 (Lib.bitLen d) : Nat) : Int).toNat * 1 = Lib.l10 (Lib.bitLen d) by omega]
    exact tU_at ⟨Lib.l10 (Lib.bitLen d), by omega⟩
  · refine ok104' ?_
    have e3 : (decide ((d : Int) ≥ ((10 ^ Lib.l10 (Lib.bitLen d) : Nat) : Int))) = decide (10 ^ Lib.l10 (Lib.bitLen d) ≤ d) := by rw [decide_eq_decide]; omega
    rw [e3]
    have e4 : (if decide (10 ^ Lib.l10 (Lib.bitLen d) ≤ d) = true then (1 : Nat) else 0) = (if 10 ^ Lib.l10 (Lib.bitLen d) ≤ d then 1 else 0) := by simp
    rw [e4]
    have e5 : IntKind.i64.wrap (((Lib.l10 (Lib.bitLen d) : Nat) : Int) + ((if 10 ^ Lib.l10 (Lib.bitLen d) ≤ d then 1 else 0 : Nat) : Int)) = (ndg d : Int) := by
      rw [← k3, wr (by omega) (by split <;> omega)]; omega
    rw [e5]; exact r
/-- The digits of d, n of them. -/
def dgL (d n : Nat) : List Int := (List.range n).map fun t => ((48 + d / 10 ^ (n - 1 - t) % 10 : Nat) : Int)
theorem dgL_len (d n : Nat) : (dgL d n).length = n := by simp [dgL]
theorem dgL_at {d n k : Nat} (h : k < n) : (dgL d n)[k]? = some ((48 + d / 10 ^ (n - 1 - k) % 10 : Nat) : Int) := by simp [dgL, h]
theorem call103 {h : Heap} {g T sC d nd : Nat} {cur : Array Value} (hb : h[g]? = some (.cells cur T (0, 0))) (hn : nd ≤ cur.size) (h0 : ∀ j, j < nd → cur[j]? = some (.int .u8 0)) (hd : d < 10 ^ nd) (hd64 : d < 18446744073709551616) (hnd : nd < 4611686018427387904) :
    CallsH Tryz.prog 103 #[.slice (some ⟨g, 0, none⟩) nd sC, .int .u64 d] h fun v h' => Fr [g] h h' ∧ v = .tuple #[] ∧ ∃ cur' : Array Value, h'[g]? = some (.cells cur' T (0, 0)) ∧ cur'.size = cur.size ∧ (∀ k, k < nd → cur'[k]? = some (.int .u8 ((48 + d / 10 ^ (nd - 1 - k) % 10 : Nat) : Int))) ∧ ∀ k, nd ≤ k → cur'[k]? = cur[k]? := by
  intro w hw
  have hbw : w.heap[g]? = some (.cells cur T (0, 0)) := by rw [hw]; exact hb
  have hs : (Array.replicate nd (0 : UInt8)).size = nd := by simp
  have := Go.Proofs.Tryz.internal_strconv_formatBase10 g 0 sC d (Array.replicate nd (0 : UInt8)) w (fun j hj => by
    rw [hs] at hj
    have hc := h0 j hj
    have hj2 : j < cur.size := by omega
    refine ⟨?_, ?_⟩
    · rw [getElem!_pos _ j (by rw [hs]; exact hj)]
      simp [World.cell?, hbw, hc]
    · simp [World.frozen?, hbw]) (by rw [hs]; exact hd) hd64 (by rw [hs]; exact hnd)
  rw [hs] at this
  refine this.mono ?_
  rintro e w' ⟨rfl, n, v', dk, rfl, F⟩
  have hsz : dk.size = nd := F.size
  have hh : ((Go.Sort.putRow (fun (b : UInt8) => Value.int .u8 (b.toNat : Int)) w g 0 dk).drewN n).heap = w.heap.modify g (Go.Sort.onCells (Go.Sort.putCells (fun (b : UInt8) => Value.int .u8 (b.toNat : Int)) 0 dk)) := rfl
  have hg := blk_lt hbw
  have hat : (w.heap.modify g (Go.Sort.onCells (Go.Sort.putCells (fun (b : UInt8) => Value.int .u8 (b.toNat : Int)) 0 dk)))[g]? = some (.cells (Go.Sort.putCells (fun (b : UInt8) => Value.int .u8 (b.toNat : Int)) 0 dk cur) T (0, 0)) := by
    rw [Array.getElem?_modify, if_pos rfl, hbw]; rfl
  have hfr : Fr [g] w.heap (w.heap.modify g (Go.Sort.onCells (Go.Sort.putCells (fun (b : UInt8) => Value.int .u8 (b.toNat : Int)) 0 dk))) :=
    ⟨by simp, fun b hb hm => by rw [Array.getElem?_modify, if_neg (by rintro rfl; simp at hm)]⟩
  refine ⟨_, rfl, ⟨rfl, rfl, rfl, by rw [hh]; simp, fun k o hk ho => ?_⟩, ?_, rfl, ?_⟩
  · rw [hh, Array.getElem?_modify]
    split
    · rename_i e; subst e; rw [hbw] at hk; cases hk; simp [Obj.isCells] at ho
    · exact hk
  · rw [hh, ← hw]; exact hfr
  · refine ⟨_, by rw [hh]; exact hat, by simp [Go.Sort.putCells], fun k hk => ?_, fun k hk => ?_⟩
    · have hk2 : k < cur.size := by omega
      simp only [Go.Sort.putCells, Array.getElem?_mapIdx, Array.getElem?_eq_getElem hk2, Option.map_some, Nat.sub_zero]
      rw [if_pos ⟨Nat.zero_le _, by omega⟩, F.done k (Nat.zero_le _) hk]
      have : (48 + d / 10 ^ (nd - 1 - k) % 10) < 256 := by omega
      simp [Lib.dg, Nat.mod_eq_of_lt this]
    · simp only [Go.Sort.putCells, Array.getElem?_mapIdx]
      cases hc : cur[k]? with
      | none => rfl
      | some x => simp only [Option.map_some]; rw [if_neg (by omega)]
/-- How many stay if the 48s at the end go. -/
def trimC (L : List Int) : Nat → Nat
  | 0 => 0
  | n + 1 => if L[n]? = some 48 then trimC L n else n + 1
theorem trimC_le (L : List Int) : ∀ n, trimC L n ≤ n
  | 0 => Nat.le_refl _
  | n + 1 => by
    unfold trimC
    split
    · exact Nat.le_succ_of_le (trimC_le L n)
    · exact Nat.le_refl _
theorem ok66' {d nd : Nat} {p : Int} (hd : d < 10 ^ nd) (hd64 : d < 18446744073709551616) (hn : nd ≤ 32) (hp : -4000 ≤ p ∧ p ≤ 4000) {R : List Int → Int → Int → Prop}
    (r : R (dgL d nd ++ List.replicate (32 - nd) 0) (nd + p) (trimC (dgL d nd) nd : Int)) : Ok66 (List.replicate 32 0) d p nd R := by
  intro h sA sL sC sT H
  have Y := Sy.start H
  obtain rfl : sL = 32 := by have := Y.lenS 0 rfl; simpa using this
  obtain ⟨⟨hxl, ho⟩, _⟩ := Y.ok (k := 0) rfl
  obtain ⟨rfl, h0, _⟩ | ⟨g, cur, rfl, hb, hle, hmx, hsz, htk⟩ := ho
  · omega
  have hM : (owns [Ck.sl (eK .u8) sT (some ⟨g, 0, none⟩) 32 sC (List.replicate 32 0)]) = [g] := rfl
  have e1 : (eK .u8).sz = 1 := rfl
  rw [e1, Nat.mul_one] at hsz htk
  have hcz : ∀ j, j < 32 → cur[j]? = some (.int .u8 0) := by
    intro j hj
    have : (cur.toList.take 32)[j]? = some (.int .u8 0) := by rw [htk, eK8_l, List.getElem?_map, List.getElem?_replicate, if_pos hj]; rfl
    rw [List.getElem?_take, if_pos hj] at this
    simpa using this
  have hcs : 32 ≤ cur.size := Nat.le_trans hle hsz
  apply calls66
  unfold S66
  refine ⟨fun vs hv => ∃ cur' : Array Value, vs = [.int .i64 (trimC (dgL d nd) nd : Int), .int .i64 (nd + p)] ∧ Fr [g] h hv ∧ hv[g]? = some (.cells cur' sT (0, 0)) ∧ cur'.size = cur.size ∧ (∀ k, k < nd → cur'[k]? = (dgL d nd)[k]?.map (Value.int .u8)) ∧ ∀ k, nd ≤ k → cur'[k]? = cur[k]?, ?_, ?_⟩
  · refine cnd_dec (fun _ => ?_) fun hc => absurd (show (nd : Int) ≤ ((32 : Nat) : Int) by omega) hc
    refine ⟨by omega, by omega, ?_⟩
    have hc0 : sC ≠ 0 := by omega
    have ea : (if sC = 0 then some (⟨g, 0, none⟩ : Addr) else Option.map (fun addr => Addr.add addr (0 * 1)) (some ⟨g, 0, none⟩)) = some ⟨g, 0, none⟩ := by rw [if_neg hc0]; rfl
    rw [ea, show (Int.toNat (nd : Int)) - 0 = nd by omega]
    refine callX_of [g] (call103 (sC := sC - 0) hb (by omega) (fun j hj => hcz j (by omega)) hd hd64 (by omega)) (by simp) ?_
    rintro v h1 f1 ⟨rfl, cur', hb', hs', hlo, hhi⟩
    have hlo' : ∀ k, k < nd → cur'[k]? = (dgL d nd)[k]?.map (Value.int .u8) := fun k hk => by rw [hlo k hk, dgL_at hk]; rfl
    refine ⟨rfl, fun vs hv => hv = h1 ∧ ∃ m : Nat, vs = [.int .i64 m] ∧ m ≤ nd ∧ trimC (dgL d nd) m = trimC (dgL d nd) nd, fun vs _ => match vs with | .int _ x :: _ => x.toNat | _ => 0, ⟨rfl, nd, rfl, Nat.le_refl _, rfl⟩, ?_⟩
    rintro nd2 hv2 ⟨ehv, m, hv, hm, ht⟩
    subst ehv
    simp only [List.cons.injEq, Value.int.injEq, true_and, and_true] at hv
    subst hv
    have fin : trimC (dgL d nd) nd = m → ∃ cur'' : Array Value, [Value.int .i64 (m : Int), Value.int .i64 (IntKind.i64.wrap ((nd : Int) + p))] = [.int .i64 (trimC (dgL d nd) nd : Int), .int .i64 (nd + p)] ∧ Fr [g] h hv2 ∧ hv2[g]? = some (.cells cur'' sT (0, 0)) ∧ cur''.size = cur.size ∧ (∀ k, k < nd → cur''[k]? = (dgL d nd)[k]?.map (Value.int .u8)) ∧ ∀ k, nd ≤ k → cur''[k]? = cur[k]? := by
      intro e
      exact ⟨cur', by rw [e, wr (by omega) (by omega)], f1, hb', hs', hlo', hhi⟩
    refine cnd_dec (fun hm0 => ?_) fun hm0 => ?_
    · obtain ⟨q, rfl⟩ : ∃ q, m = q + 1 := ⟨m - 1, by omega⟩
      have ew : IntKind.i64.wrap (((q + 1 : Nat) : Int) - 1) = (q : Int) := by rw [wr (by omega) (by omega)]; omega
      rw [ew, Int.toNat_natCast]
      obtain ⟨x, hx⟩ : ∃ x, (dgL d nd)[q]? = some x := ⟨_, dgL_at (by omega)⟩
      refine ⟨g, 0, rfl, by omega, by omega, x, ?_, cnd_eq (fun hx48 => ?_) fun hx48 => ?_⟩
      · rw [hcell_of hb', Nat.zero_add, Nat.mul_one, hlo' q (by omega), hx]; rfl
      · refine ⟨⟨rfl, q, rfl, by omega, ?_⟩, ?_⟩
        · rw [← ht, trimC, if_pos (by rw [hx, hx48])]
        · show q < ((q + 1 : Nat) : Int).toNat
          omega
      · apply fin
        rw [← ht, trimC, if_neg (by rw [hx]; simpa using hx48)]
    · apply fin
      have : m = 0 := by omega
      subst this
      rw [← ht]; rfl
  · rintro nd3 dp h3 ⟨cur', hv, f3, hb', hs', hlo', hhi⟩
    simp only [List.cons.injEq, Value.int.injEq, true_and, and_true] at hv
    obtain ⟨rfl, rfl⟩ := hv
    refine ⟨_, _, _, ?_, rfl, r⟩
    have hown : Ownd h3 sT (eK .u8).sz (some ⟨g, 0, none⟩) 32 sC ((eK .u8).l (dgL d nd ++ List.replicate (32 - nd) 0)) := by
      refine ⟨by rw [En.l_len, List.length_append, dgL_len, List.length_replicate, e1]; omega, .inr ⟨g, cur', rfl, hb', hle, hmx, by rw [e1, Nat.mul_one, hs']; exact hsz, ?_⟩⟩
      rw [eK8_l, e1, Nat.mul_one]
      apply List.ext_getElem?
      intro k
      rw [List.getElem?_take]
      split
      · rename_i hk
        rw [List.getElem?_map]
        by_cases hkn : k < nd
        · rw [List.getElem?_append_left (by rw [dgL_len]; exact hkn), ← hlo' k hkn]; simp
        · rw [List.getElem?_append_right (by rw [dgL_len]; omega), dgL_len, List.getElem?_replicate, if_pos (by omega)]
          have := hhi k (by omega)
          rw [hcz k hk] at this
          simpa using this
      · rename_i hk
        rw [List.getElem?_eq_none]; simp [dgL_len]; omega
    refine ⟨by rw [hM]; exact f3, Hp.one ⟨hown, by simp [dgL_len]; omega⟩, fun k c hk b hbo => ?_⟩
    cases k with
    | zero => simp at hk; subst hk; exact .inl hbo
    | succ k => simp at hk
end Go.Proofs.YtfjflbapojgbhaaGreatDoor.N
