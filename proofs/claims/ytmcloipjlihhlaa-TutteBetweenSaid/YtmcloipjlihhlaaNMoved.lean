/- Moved: both texts as a plain function. Conditions: none. -/
import Derived.Test.YtmcloipjlihhlaaNTutte
namespace Go.Proofs.Ytmcloipjlihhlaa.N
open Go.X Go.Proofs.Ytmcloipjlihhlaa
set_option maxRecDepth 100000

theorem absM_eq (x : Nat) : absM x = x % 2 ^ 63 := by
  unfold absM bits
  have hk : IntKind.u64.bits = 64 := rfl
  have e1 : (BitVec.ofInt IntKind.u64.bits (x : Int) &&& ~~~(BitVec.ofInt IntKind.u64.bits (9223372036854775808 : Int))).toNat = x % 2 ^ 63 := by
    rw [BitVec.toNat_and]
    have h1 : (BitVec.ofInt IntKind.u64.bits (x : Int)).toNat = x % 2 ^ 64 := by
      rw [BitVec.toNat_ofInt, hk]; omega
    have h2 : (~~~(BitVec.ofInt IntKind.u64.bits (9223372036854775808 : Int))).toNat = 2 ^ 63 - 1 := by decide
    rw [h1, h2, Nat.and_two_pow_sub_one_eq_mod]
    omega
  have e2 : (BitVec.ofInt IntKind.u64.bits (x : Int) &&& ~~~(BitVec.ofInt IntKind.u64.bits (9223372036854775808 : Int))).toNat < 2 ^ 63 := by rw [e1]; exact Nat.mod_lt _ (by decide)
  simp only
  rw [e1] at *
  unfold IntKind.wrap
  have h3 : IntKind.u64.signed = false := rfl
  simp [hk, h3]
  omega
theorem read_abs (x : Nat) : F64.read (absM x) = match F64.read x with
    | .number _ m i => .number false m i
    | .infinity _ => .infinity false
    | .nan _ t => .nan false t := by
  have hs : F64.signWeight = 2 ^ 63 := by decide
  rw [absM_eq]
  unfold Ieee.Format.read
  simp only [hs]
  have h1 : x % 2 ^ 63 / 2 ^ 63 % 2 = 0 := by omega
  have h2 : x % 2 ^ 63 % 2 ^ 63 = x % 2 ^ 63 := by omega
  rw [h1, h2]
  simp only [show ((0 : Nat) == 1) = false from rfl]
  split
  · rfl
  · split
    · rfl
    · split <;> rfl
theorem absM_nan (x : Nat) : isNaN (absM x) = isNaN x := by
  have h : isNaN (absM x) = (F64.read (absM x)).isNaN := rfl
  have h' : isNaN x = (F64.read x).isNaN := rfl
  rw [h, h', read_abs]
  cases F64.read x <;> rfl
theorem feq.abs {a b : Nat} (h : feq a b) : feq (absM a) (absM b) := by
  rcases h with rfl | ⟨h1, h2⟩
  · exact .inl rfl
  · exact .inr ⟨by rw [absM_nan, h1], by rw [absM_nan, h2]⟩
theorem feq.less {a b a' b' : Nat} (ha : feq a a') (hb : feq b b') : lessM a b = lessM a' b' := by
  unfold lessM
  rw [← ha.nan, ← hb.nan]
  rcases ha with rfl | ⟨h1, _⟩
  · rcases hb with rfl | ⟨h2, _⟩
    · rfl
    · simp [h2]
  · simp [h1]
def upM (best d : Nat) : Nat := if lessM best d then d else best
theorem feq.up {a b a' b' : Nat} (ha : feq a a') (hb : feq b b') : feq (upM a b) (upM a' b') := by
  unfold upM
  rw [ha.less hb]
  split <;> assumption
theorem upM_t {a b : Nat} (q : lessM a b = true) : upM a b = b := by unfold upM; rw [q]; rfl
theorem upM_f {a b : Nat} (q : lessM a b = false) : upM a b = a := by unfold upM; rw [q]; rfl
def wayX (p q : Nat × Nat) : Nat := absM (subM p.1 q.1)
def wayY (p q : Nat × Nat) : Nat := absM (subM p.2 q.2)
def bestK (a b : Spots) : Nat → Nat
  | 0 => 0
  | k + 1 => upM (upM (bestK a b k) (wayX (a.getD k (0, 0)) (b.getD k (0, 0)))) (wayY (a.getD k (0, 0)) (b.getD k (0, 0)))
def movedR (a b : Spots) : Nat × Int := if a.length = b.length then (cleanM (bestK a b a.length), 0) else (0, 1)

theorem lit2f {a b : Nat} {j : Int} (h0 : 0 ≤ j) (h2 : j < 2) : ∃ c, (#[.float .f64 a, .float .f64 b] : Array Value)[Int.toNat j]? = some (.float .f64 c) ∧ ((j = 0 ∧ c = a) ∨ (j = 1 ∧ c = b)) := by
  have : j = 0 ∨ j = 1 := by omega
  rcases this with rfl | rfl
  · exact ⟨a, rfl, .inl ⟨rfl, rfl⟩⟩
  · exact ⟨b, rfl, .inr ⟨rfl, rfl⟩⟩
theorem okMoved {a b : Spots} {R : Nat → Int → Prop} (hl : a.length ≤ 1000000000) (h : R (movedR a b).1 (movedR a b).2) : Ok51 a b R := by
  apply ok51
  unfold T51
  refine cnd_ne (fun h1 => ?_) fun h1 => ?_
  · have : ¬ a.length = b.length := by omega
    simpa [movedR, this] using h
  have h1 : a.length = b.length := by omega
  simp only [movedR, h1, if_true] at h
  rw [← h1] at h
  refine ⟨fun m i => ∃ k : Nat, i = k ∧ k ≤ a.length ∧ feq m (bestK a b k), fun _ i => ((a.length : Int) - i).toNat, ⟨0, rfl, by omega, .inl rfl⟩, ?_⟩
  rintro most _ ⟨k, rfl, hk, hf⟩
  refine cnd_dec (fun hlt => ?_) fun hlt => ?_
  · refine ⟨fun d e => feq d (subM (a.getD k (0, 0)).1 (b.getD k (0, 0)).1) ∧ feq e (subM (a.getD k (0, 0)).2 (b.getD k (0, 0)).2), ⟨by omega, hlt, fun x hx => ⟨by omega, by omega, fun y hy => ?_⟩⟩, ?_⟩
    · rw [Int.toNat_natCast] at hx hy
      have ex : a.getD k (0, 0) = x := by simp [List.getD, hx]
      have ey : b.getD k (0, 0) = y := by simp [List.getD, hy]
      rw [ex, ey]
      first
        | exact ⟨fun r hr r2 hr2 => ⟨fres hr, fres hr2⟩, fun r hr r2 hr2 => ⟨fres hr2, fres hr⟩⟩
        | exact fun r hr r2 hr2 => ⟨fres hr, fres hr2⟩
    · rintro d e ⟨hd, he⟩
      refine ⟨fun m j => ∃ n : Nat, j = n ∧ n ≤ 2 ∧ feq m (if n = 0 then bestK a b k else if n = 1 then upM (bestK a b k) (wayX (a.getD k (0, 0)) (b.getD k (0, 0))) else bestK a b (k + 1)), fun _ j => (2 - j).toNat, ⟨0, rfl, by omega, by simpa using hf⟩, ?_⟩
      rintro m _ ⟨n, rfl, hn, hm⟩
      refine cnd_dec (fun hlt2 => ?_) fun hlt2 => ?_
      · obtain ⟨c, hc, hcd⟩ := lit2f (a := d) (b := e) (j := (n : Int)) (by omega) hlt2
        refine ⟨by omega, by omega, c, hc, okAbs (okLess ⟨fun v => v = upM m (absM c), cnd_b (fun q => ?_) fun q => ?_, ?_⟩)⟩
        · simp [upM, q]
        · simp [upM, q]
        · rintro _ rfl
          rw [wr (by omega) (by omega)]
          refine ⟨⟨n + 1, by simp, by omega, ?_⟩, by dsimp only; omega⟩
          rcases hcd with ⟨e0, rfl⟩ | ⟨e0, rfl⟩
          · have : n = 0 := by omega
            subst this
            simp only [if_true] at hm
            simpa [wayX] using hm.up hd.abs
          · have : n = 1 := by omega
            subst this
            simp at hm
            simpa [bestK, wayY] using hm.up he.abs
      · have : n = 2 := by omega
        subst this
        rw [wr (by omega) (by omega)]
        exact ⟨⟨k + 1, by simp, by omega, by simpa using hm⟩, by dsimp only; omega⟩
  · have hke : k = a.length := by omega
    subst hke
    refine okClean ?_
    rw [hf.clean]; exact h
theorem okMovedR {a b : Spots} {R : Nat → Int → Prop} (hl : a.length ≤ 1000000000) (h : R (movedR a b).1 (movedR a b).2) : Ok52 a b R := by
  apply ok52
  unfold T52
  refine cnd_ne (fun h1 => ?_) fun h1 => ?_
  · have : ¬ a.length = b.length := by omega
    simpa [movedR, this] using h
  have h1 : a.length = b.length := by omega
  simp only [movedR, h1, if_true] at h
  rw [← h1] at h
  refine ⟨fun m i => ∃ k : Nat, i = k ∧ k ≤ a.length ∧ feq m (bestK a b k), fun _ i => ((a.length : Int) - i).toNat, ⟨0, rfl, by omega, .inl rfl⟩, ?_⟩
  rintro most _ ⟨k, rfl, hk, hf⟩
  refine cnd_dec (fun hlt => ⟨by omega, hlt, fun x hx => ⟨by omega, by omega, fun y hy r hr => okAbs fun r3 hr3 => okAbs (okLessR ⟨fun v => v = upM most (absM r), cnd_b (fun q => ?_) fun q => ?_, ?_⟩)⟩⟩) fun hlt => ?_
  · simp [upM, q]
  · simp [upM, q]
  · rintro _ rfl
    refine okLessR ⟨fun v => v = upM (upM most (absM r)) (absM r3), cnd_b (fun q => ?_) fun q => ?_, ?_⟩
    · exact (upM_t q).symm
    · exact (upM_f q).symm
    · rintro _ rfl
      rw [Int.toNat_natCast] at hx hy
      have ex : a.getD k (0, 0) = x := by simp [List.getD, hx]
      have ey : b.getD k (0, 0) = y := by simp [List.getD, hy]
      rw [wr (by omega) (by omega)]
      refine ⟨⟨k + 1, by simp, by omega, ?_⟩, by dsimp only; omega⟩
      simp only [bestK, ex, ey, wayX, wayY]
      exact (hf.up (feq.abs (fres hr))).up (feq.abs (fres hr3))
  · have hke : k = a.length := by omega
    subst hke
    refine okCleanR ?_
    rw [hf.clean]; exact h
end Go.Proofs.Ytmcloipjlihhlaa.N
