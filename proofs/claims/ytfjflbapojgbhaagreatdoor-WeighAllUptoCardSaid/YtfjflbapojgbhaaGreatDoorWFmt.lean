/- The text of digits with a point, or with an exponent: fmtEFG for the shortest form 'g'. Conditions: none. -/
import Derived.Test.YtfjflbapojgbhaaGreatDoorWDig
namespace Go.Proofs.YtfjflbapojgbhaaGreatDoor.N
open Go.X Go.Proofs.YtfjflbapojgbhaaGreatDoor
set_option maxRecDepth 100000
set_option maxHeartbeats 2000000

def signL (neg : Bool) : List Int := if neg then [45] else []
def expoL (x : Int) : List Int :=
  let a := x.natAbs
  (if x < 0 then 45 else 43) :: (if a < 10 then [48, ((48 + a : Nat) : Int)] else if a < 100 then [((48 + a / 10 : Nat) : Int), ((48 + a % 10 : Nat) : Int)] else [((48 + a / 100 : Nat) : Int), ((48 + a / 10 % 10 : Nat) : Int), ((48 + a % 10 : Nat) : Int)])
def eForm (L : List Int) (dp : Int) : List Int :=
  (if L = [] then [48] else L.take 1) ++ (if 1 < L.length then 46 :: L.drop 1 else []) ++ [101] ++ expoL (if L = [] then 0 else dp - 1)
def fForm (L : List Int) (dp : Int) : List Int :=
  (if 0 < dp then L.take dp.toNat ++ List.replicate (dp.toNat - L.length) 48 else [48]) ++ (if dp < (L.length : Int) then 46 :: (List.replicate (-dp).toNat 48 ++ L.drop dp.toNat) else [])
def fmtG (neg : Bool) (L : List Int) (dp : Int) : List Int :=
  signL neg ++ (if dp - 1 < -4 ∨ 6 ≤ dp - 1 then eForm L dp else fForm L dp)
theorem u8w {x : Int} (h1 : 0 ≤ x) (h2 : x < 256) : IntKind.u8.wrap x = x := by rw [IntKind.wrap_u8']; omega
theorem ok63e {dst sV L : List Int} {neg : Bool} {dp : Int} {n : Nat} {R : List Int → Prop} (hd : dst.length < 1000) (hL : sV.take n = L) (hn : n ≤ sV.length) (hn32 : n ≤ 32) (h0 : -1000 < dp) (h1 : dp < 1000) (hE : dp - 1 < -4 ∨ 6 ≤ dp - 1)
    (r : R (dst ++ signL neg ++ eForm L dp)) : Ok63 dst neg sV dp n n 103 true R := by
  have hLl : L.length = n := by rw [← hL]; simp [hn]
  have hnil : L = [] ↔ n = 0 := by rw [← hLl]; exact List.length_eq_zero_iff.symm
  apply ok63
  unfold T63
  refine ⟨fun a b => a = (n : Int) - 1 ∧ b = 101, cnd_t rfl ⟨fun _ => True, cnd_dec (fun h => absurd h (by omega)) fun _ => trivial, fun _ _ => ⟨fun e => e = 6, cnd_t rfl rfl, ?_⟩⟩, ?_⟩
  · rintro _ rfl
    have ed : IntKind.i64.wrap (dp - 1) = dp - 1 := wr (by omega) (by omega)
    have ef : IntKind.u8.wrap (IntKind.u8.wrap (103 + 101) - 103) = 101 := by decide
    rw [ed, ef]
    have en : IntKind.i64.wrap ((n : Int) - 1) = (n : Int) - 1 := wr (by omega) (by omega)
    have J : ∃ J : Int → Prop, cnd (decide ((n : Int) > n)) (J n) (J n) ∧ ∀ p, J p → IntKind.i64.wrap (p - 1) = (n : Int) - 1 ∧ (101 : Int) = 101 :=
      ⟨fun p => p = n, cnd_dec (fun _ => rfl) fun _ => rfl, fun p hp => by subst hp; exact ⟨en, rfl⟩⟩
    exact cnd_dec (fun _ => J) fun hlt => ⟨fun a b => a = (n : Int) - 1 ∧ b = 101, cnd_dec (fun _ => J) fun h => absurd hE (by omega), fun _ _ h => h⟩
  · rintro _ _ ⟨rfl, rfl⟩
    refine ⟨fun x => x = true, cnd_t rfl rfl, ?_⟩
    rintro _ rfl
    refine cnd_t rfl ?_
    refine ⟨fun d => d = dst ++ signL neg, cnd_b (fun hb => ⟨by omega, by subst hb; rfl⟩) (fun hb => by subst hb; simp [signL]), ?_⟩
    rintro d1 hd1
    have hl1 : d1.length ≤ 1001 := by subst hd1; cases neg <;> simp [signL] <;> omega
    refine ⟨fun c => [c] = if L = [] then [48] else L.take 1, cnd_ne (fun hz => ⟨by omega, by omega, fun s hs => ?_⟩) fun hz => ?_, ?_⟩
    · rw [if_neg (fun e => by rw [hnil] at e; omega), ← hL]
      cases sV with
      | nil => simp at hs
      | cons a t =>
        simp at hs; subst hs
        cases n with
        | zero => simp at hz
        | succ n => simp
    · rw [if_pos (hnil.2 (by omega))]
    intro c hc
    have ep : IntKind.i64.wrap ((n : Int) - 1 + 1) = (n : Int) := by rw [wr (by omega) (by omega)]; omega
    have em : (if (n : Int) < (n : Int) then (n : Int) else (n : Int)) = n := by split <;> rfl
    refine ⟨by omega, fun d => d = d1 ++ (if L = [] then [48] else L.take 1) ++ (if 1 < L.length then 46 :: L.drop 1 else []), ?_, ?_⟩
    · rw [ep, em, ← hc]
      refine cnd_dec (fun hp => ⟨by omega, fun d i => d = d1 ++ [c] ++ (46 :: L.drop 1) ∧ i = n, cnd_dec (fun _ => ⟨by omega, by omega, by decide, by omega, by omega, ?_, rfl⟩) fun h => absurd (show (1 : Int) < n by omega) h, ?_⟩) fun hp => ?_
      · rw [Int.toNat_natCast, hL]; simp
      · rintro _ _ ⟨rfl, rfl⟩
        refine ⟨fun d x => d = d1 ++ [c] ++ (46 :: L.drop 1) ∧ x = 0, fun _ _ => 0, ⟨rfl, rfl⟩, ?_⟩
        rintro _ _ ⟨rfl, rfl⟩
        refine cnd_dec (fun h => absurd h (by rw [wr (by omega) (by omega)]; omega)) fun _ => ?_
        rw [if_pos (by rw [hLl]; omega)]
      · rw [if_neg (by rw [hLl]; omega)]; simp
    intro d2 hd2
    have hl2 : d2.length ≤ 1100 := by
      subst hd2
      simp only [List.length_append]
      have a1 : (if L = [] then [48] else List.take 1 L).length ≤ 1 := by split <;> simp <;> omega
      have a2 : (if 1 < L.length then 46 :: List.drop 1 L else []).length ≤ 33 := by split <;> simp <;> omega
      omega
    have hx : (if L = [] then (0 : Int) else dp - 1) = if n = 0 then 0 else dp - 1 := by simp only [hnil]
    generalize hxx : (if L = [] then (0 : Int) else dp - 1) = x at hx
    have hxb : -1001 < x ∧ x < 1000 := by rw [hx]; split <;> omega
    refine ⟨by omega, fun e => x = e, cnd_eq (fun hz => ?_) fun hz => ?_, ?_⟩
    · rw [hx, if_pos (by omega)]
    · rw [hx, if_neg (by omega)]; exact (wr (by omega) (by omega)).symm
    rintro _ rfl
    refine ⟨fun c e => c = (if x < 0 then 45 else 43) ∧ e = (x.natAbs : Int), cnd_dec (fun h => ⟨by rw [if_pos h], by rw [wr (by omega) (by omega)]; omega⟩) fun h => ⟨by rw [if_neg h], by omega⟩, ?_⟩
    rintro _ _ ⟨rfl, rfl⟩
    have ha : x.natAbs < 1001 := by omega
    have key : R (d2 ++ [101] ++ expoL x) := by
      rw [← hxx, hd2, hd1]
      simpa [eForm, hxx, List.append_assoc] using r
    generalize hA : x.natAbs = a at *
    have t10 : Int.tdiv (a : Int) 10 = ((a / 10 : Nat) : Int) := rfl
    have t100 : Int.tdiv (a : Int) 100 = ((a / 100 : Nat) : Int) := rfl
    have m10 : Int.tmod (a : Int) 10 = ((a % 10 : Nat) : Int) := rfl
    refine ⟨by omega, fun d => d = d2 ++ [101] ++ expoL x, cnd_dec (fun h => ⟨by omega, ?_⟩) fun h => ⟨fun d => d = d2 ++ [101] ++ expoL x, cnd_dec (fun h2 => ⟨by decide, by decide, by omega, ?_⟩) fun h2 => ⟨by decide, by decide, by decide, by decide, by omega, ?_⟩, fun _ h => h⟩, ?_⟩
    · rw [u8w (x := (a : Int)) (by omega) (by omega), u8w (by omega) (by omega)]
      unfold expoL; simp only [hA]; rw [if_pos (show a < 10 by omega)]
      simp; omega
    · rw [t10, m10, wr (by omega) (by omega), u8w (x := ((a / 10 : Nat) : Int)) (by omega) (by omega), u8w (x := ((a / 10 : Nat) : Int) + 48) (by omega) (by omega), u8w (x := ((a % 10 : Nat) : Int)) (by omega) (by omega), u8w (x := ((a % 10 : Nat) : Int) + 48) (by omega) (by omega)]
      unfold expoL; simp only [hA]; rw [if_neg (show ¬ a < 10 by omega), if_pos (show a < 100 by omega)]
      simp; omega
    · rw [t100, t10, m10, wr (x := ((a / 100 : Nat) : Int)) (by omega) (by omega), wr (x := ((a / 10 : Nat) : Int)) (by omega) (by omega), u8w (x := ((a / 100 : Nat) : Int)) (by omega) (by omega), u8w (x := ((a / 100 : Nat) : Int) + 48) (by omega) (by omega), u8w (x := ((a / 10 : Nat) : Int)) (by omega) (by omega),
        u8w (x := ((a % 10 : Nat) : Int)) (by omega) (by omega), u8w (x := ((a % 10 : Nat) : Int) + 48) (by omega) (by omega)]
      rw [show Int.tmod ((a / 10 : Nat) : Int) 10 = ((a / 10 % 10 : Nat) : Int) from rfl, u8w (x := ((a / 10 % 10 : Nat) : Int) + 48) (by omega) (by omega)]
      unfold expoL; simp only [hA]; rw [if_neg (show ¬ a < 10 by omega), if_neg (show ¬ a < 100 by omega)]
      simp; omega
    · rintro _ rfl
      exact key
theorem wr1 {k : Nat} (h : k < 1000000) : IntKind.i64.wrap ((k : Int) + 1) = ((k + 1 : Nat) : Int) := by rw [wr (by omega) (by omega)]; omega
theorem ok63f {dst sV L : List Int} {neg : Bool} {dp pc : Int} {n : Nat} {R : List Int → Prop} (hd : dst.length < 1000) (hL : sV.take n = L) (hn : n ≤ sV.length) (hn32 : n ≤ 32) (h0 : -1000 < dp) (h1 : dp < 1000) (hE : ¬ (dp - 1 < -4 ∨ 6 ≤ dp - 1))
    (hpc : pc = n ∨ (n = 0 ∧ dp = 0 ∧ pc = -1)) (r : R (dst ++ signL neg ++ fForm L dp)) : Ok63 dst neg sV dp n pc 103 true R := by
  have hLl : L.length = n := by rw [← hL]; simp [hn]
  apply ok63
  unfold T63
  refine ⟨fun a b => a = ((n - dp).toNat : Int) ∧ b = 102, cnd_t rfl ⟨fun _ => True, cnd_dec (fun h => absurd h (by omega)) fun _ => trivial, fun _ _ => ⟨fun e => e = 6, cnd_t rfl rfl, ?_⟩⟩, ?_⟩
  · rintro _ rfl
    have ed : IntKind.i64.wrap (dp - 1) = dp - 1 := wr (by omega) (by omega)
    rw [ed]
    refine cnd_dec (fun h => absurd h (by omega)) fun _ => ⟨fun a b => a = ((n - dp).toNat : Int) ∧ b = 102, cnd_dec (fun h => absurd h (by omega)) fun _ => ⟨fun p => p = n ∨ p = pc ∧ pc ≤ dp, cnd_dec (fun _ => .inl rfl) fun h => .inr ⟨rfl, by omega⟩, fun p hp => ⟨?_, rfl⟩⟩, fun _ _ h => h⟩
    have hp2 : -1 ≤ p ∧ p ≤ 32 := by omega
    rw [wr (x := p - dp) (by omega) (by omega)]
    split <;> omega
  rintro _ _ ⟨rfl, rfl⟩
  refine ⟨fun x => x = false, cnd_f rfl rfl, ?_⟩
  rintro _ rfl
  refine cnd_f rfl (cnd_t rfl ?_)
  refine ⟨fun d => d = dst ++ signL neg, cnd_b (fun hb => ⟨by omega, by subst hb; rfl⟩) (fun hb => by subst hb; simp [signL]), ?_⟩
  rintro d1 hd1
  have hl1 : d1.length ≤ 1001 := by subst hd1; cases neg <;> simp [signL] <;> omega
  refine ⟨fun d => d = d1 ++ (if 0 < dp then L.take dp.toNat ++ List.replicate (dp.toNat - L.length) 48 else [48]), cnd_dec (fun hp => ?_) fun hp => ⟨by omega, by rw [if_neg hp]⟩, ?_⟩
  · -- the whole part
    obtain ⟨m, hm, hmn⟩ : ∃ m : Nat, (if dp < (n : Int) then dp else (n : Int)) = m ∧ m = min dp.toNat n := ⟨min dp.toNat n, by split <;> omega, rfl⟩
    rw [hm, Int.toNat_natCast, if_pos hp]
    have hmL : sV.take m = L.take m := by rw [← hL, List.take_take]; congr 1; omega
    have hml : (L.take m).length = m := by rw [List.length_take, hLl]; omega
    rw [hmL]
    refine ⟨by omega, by omega, fun d x => ∃ k : Nat, x = k ∧ k ≤ m ∧ d = d1 ++ (L.take m).take k, fun _ x => m - x.toNat, ⟨0, rfl, Nat.zero_le _, by simp⟩, ?_⟩
    rintro _ _ ⟨k, rfl, hk, rfl⟩
    refine cnd_dec (fun hlt => ⟨by omega, hlt, fun v hv => ⟨?_, ⟨k + 1, wr1 (by omega), by omega, ?_⟩, ?_⟩⟩) fun hge => ?_
    · simp only [List.length_append, List.length_take]; omega
    · rw [Int.toNat_natCast] at hv
      rw [List.append_assoc, List.take_add_one, hv]; rfl
    · rw [wr1 (by omega)]; dsimp only; omega
    · have hkm : k = m := by omega
      subst hkm
      rw [List.take_of_length_le (by rw [hml]; exact Nat.le_refl _)]
      have hzz : IntKind.i64.wrap (dp - (k : Int)) = ((dp.toNat - k : Nat) : Int) := by rw [wr (by omega) (by omega)]; omega
      rw [hzz]
      refine ⟨fun d x => ∃ j : Nat, x = j ∧ j ≤ dp.toNat - k ∧ d = d1 ++ L.take k ++ List.replicate j 48, fun _ x => dp.toNat - k - x.toNat, ⟨0, rfl, Nat.zero_le _, by simp⟩, ?_⟩
      rintro _ _ ⟨j, rfl, hj, rfl⟩
      refine cnd_dec (fun hlt => ⟨?_, ⟨j + 1, wr1 (by omega), by omega, ?_⟩, ?_⟩) fun hge => ?_
      · simp only [List.length_append, List.length_take, List.length_replicate]; omega
      · rw [List.append_assoc, ← List.replicate_succ']
      · rw [wr1 (by omega)]; dsimp only; omega
      · have hjj : j = dp.toNat - k := by omega
        subst hjj
        rw [List.append_assoc]
        congr 1
        by_cases hc : dp.toNat < n
        · have : k = dp.toNat := by omega
          rw [this, Nat.sub_self, show dp.toNat - L.length = 0 by omega]
        · have : k = n := by omega
          rw [this, hLl, List.take_of_length_le (by omega), List.take_of_length_le (by omega)]
  rintro d2 hd2
  have hl2 : d2.length ≤ 3000 := by
    subst hd2
    rw [List.length_append]
    have : (if 0 < dp then L.take dp.toNat ++ List.replicate (dp.toNat - L.length) 48 else [48]).length ≤ 1100 := by
      split
      · simp only [List.length_append, List.length_take, List.length_replicate]; omega
      · simp
    omega
  refine ⟨fun d => d = d2 ++ (if dp < (L.length : Int) then 46 :: (List.replicate (-dp).toNat 48 ++ L.drop dp.toNat) else []), cnd_dec (fun hq => ?_) fun hq => by rw [if_neg (by rw [hLl]; omega)]; simp, ?_⟩
  · -- the fraction
    have hlt : dp < n := by omega
    have hfr : (if dp < (L.length : Int) then 46 :: (List.replicate (-dp).toNat (48 : Int) ++ L.drop dp.toNat) else []) = 46 :: (List.replicate (-dp).toNat (48 : Int) ++ L.drop dp.toNat) := if_pos (by rw [hLl]; exact hlt)
    rw [hfr]
    obtain ⟨zn, hzn⟩ : ∃ zn : Nat, zn = (-dp).toNat := ⟨_, rfl⟩
    obtain ⟨on, hon⟩ : ∃ on : Nat, on = dp.toNat := ⟨_, rfl⟩
    obtain ⟨mn, hmn⟩ : ∃ mn : Nat, mn = n - on := ⟨_, rfl⟩
    have hz1 : (if IntKind.i64.wrap (0 - dp) > (0 : Int) then IntKind.i64.wrap (0 - dp) else 0) = (zn : Int) := by rw [wr (by omega) (by omega)]; split <;> omega
    have hz2 : (if (zn : Int) < ((n - dp).toNat : Int) then (zn : Int) else ((n - dp).toNat : Int)) = (zn : Int) := by split <;> omega
    have ho : IntKind.i64.wrap (dp + (zn : Int)) = (on : Int) := by rw [wr (by omega) (by omega)]; omega
    have hm1 : IntKind.i64.wrap ((n : Int) - (on : Int)) = (mn : Int) := by rw [wr (by omega) (by omega)]; omega
    have hm2 : (if (mn : Int) > 0 then (mn : Int) else 0) = (mn : Int) := by split <;> omega
    have hm3 : IntKind.i64.wrap (((n - dp).toNat : Int) - (zn : Int)) = (mn : Int) := by rw [wr (by omega) (by omega)]; omega
    have hm4 : (if (mn : Int) < (mn : Int) then (mn : Int) else (mn : Int)) = (mn : Int) := by split <;> rfl
    have hm5 : IntKind.i64.wrap ((mn : Int) - (mn : Int)) = 0 := by rw [wr (by omega) (by omega)]; omega
    have hm6 : (if (0 : Int) > 0 then (0 : Int) else 0) = 0 := by decide
    simp only [hz1, hz2, ho, hm1, hm2, hm3, hm4, hm5, hm6]
    rw [← hzn, ← hon]
    refine ⟨by omega, fun d x => ∃ j : Nat, x = j ∧ j ≤ zn ∧ d = d2 ++ [46] ++ List.replicate j 48, fun _ x => zn - x.toNat, ⟨0, rfl, Nat.zero_le _, by simp⟩, ?_⟩
    rintro _ _ ⟨j, rfl, hj, rfl⟩
    refine cnd_dec (fun hlt => ⟨?_, ⟨j + 1, wr1 (by omega), by omega, ?_⟩, ?_⟩) fun hge => ?_
    · simp only [List.length_append, List.length_replicate, List.length_cons, List.length_nil]; omega
    · rw [List.append_assoc, ← List.replicate_succ']
    · rw [wr1 (by omega)]; dsimp only; omega
    have hjj : j = zn := by omega
    subst hjj
    have hdl : (L.drop on).length = mn := by rw [List.length_drop, hLl]; omega
    refine ⟨fun d x => ∃ k : Nat, x = k ∧ k ≤ mn ∧ d = d2 ++ [46] ++ List.replicate j 48 ++ (L.drop on).take k, fun _ x => mn - x.toNat, ⟨0, rfl, Nat.zero_le _, by simp⟩, ?_⟩
    rintro _ _ ⟨k, rfl, hk, rfl⟩
    have ek : IntKind.i64.wrap ((on : Int) + (k : Int)) = ((on + k : Nat) : Int) := by rw [wr (by omega) (by omega)]; omega
    rw [ek, Int.toNat_natCast]
    refine cnd_dec (fun hlt => ⟨by omega, by omega, fun v hv => ⟨?_, ⟨k + 1, wr1 (by omega), by omega, ?_⟩, ?_⟩⟩) fun hge => ?_
    · simp only [List.length_append, List.length_replicate, List.length_cons, List.length_nil, List.length_take]; omega
    · have hv2 : (L.drop on)[k]? = some v := by
        rw [List.getElem?_drop, ← hL, List.getElem?_take, if_pos (by omega)]; exact hv
      rw [List.append_assoc, List.take_add_one, hv2]; rfl
    · rw [wr1 (by omega)]; dsimp only; omega
    have hkm : k = mn := by omega
    subst hkm
    refine ⟨fun d x => x = 0 ∧ d = d2 ++ [46] ++ List.replicate j 48 ++ (L.drop on).take k, fun _ _ => 0, ⟨rfl, rfl⟩, ?_⟩
    rintro _ _ ⟨rfl, rfl⟩
    refine cnd_dec (fun h => absurd h (by decide)) fun _ => ?_
    rw [List.take_of_length_le (by rw [hdl]; exact Nat.le_refl _)]
    simp
  rintro d3 hd3
  have : d3 = dst ++ signL neg ++ fForm L dp := by
    rw [hd3, hd2, hd1]; simp [fForm, List.append_assoc]
  rw [this]; exact r
theorem ok63' {dst sV L : List Int} {neg : Bool} {dp : Int} {n : Nat} {R : List Int → Prop} (hd : dst.length < 1000) (hL : sV.take n = L) (hn : n ≤ sV.length) (hn32 : n ≤ 32) (h0 : -1000 < dp) (h1 : dp < 1000)
    (r : R (dst ++ fmtG neg L dp)) : Ok63 dst neg sV dp n n 103 true R := by
  unfold fmtG at r
  rw [← List.append_assoc] at r
  by_cases hE : dp - 1 < -4 ∨ 6 ≤ dp - 1
  · rw [if_pos hE] at r
    exact ok63e hd hL hn hn32 h0 h1 hE r
  · rw [if_neg hE] at r
    exact ok63f hd hL hn hn32 h0 h1 hE (.inl rfl) r
theorem ok63z {dst : List Int} {neg : Bool} {R : List Int → Prop} (hd : dst.length < 1000) (r : R (dst ++ fmtG neg [] 0)) : Ok63 dst neg [] 0 0 (-1) 103 true R := by
  unfold fmtG at r
  rw [← List.append_assoc, if_neg (by decide)] at r
  exact ok63f (n := 0) hd rfl (by simp) (by omega) (by omega) (by omega) (by decide) (.inr ⟨rfl, rfl, rfl⟩) r
end Go.Proofs.YtfjflbapojgbhaaGreatDoor.N
