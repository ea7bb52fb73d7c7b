/- weigh.Read answers as told, if ParseFloat has a value. Conditions: none. -/
import Derived.Test.YtfjflbapojgbhaaGreatDoorWNumT
namespace Go.Proofs.YtfjflbapojgbhaaGreatDoor.N
open Go.X Go.Proofs.YtfjflbapojgbhaaGreatDoor
open Go.RowKit (Below)
set_option maxRecDepth 100000
set_option maxHeartbeats 1000000

/-- The inner ParseFloat has this value. -/
def P37 (s : ByteArray) (V : Nat) : Prop := ∃ e : Option Int, (e = none ∨ e = some 1) ∧ ∀ R : Nat → Option Int → Prop, R V e → Ok37 s 64 R
theorem atofV_err (m : Nat) (e : Int) (ng : Bool) : (atofV m e ng).2 = none ∨ (atofV m e ng).2 = some 1 := by
  unfold atofV
  split
  · exact .inl rfl
  split
  · exact .inr rfl
  split
  · exact .inl rfl
  split
  · exact .inl rfl
  unfold parse64
  split
  · exact .inl rfl
  unfold pk
  split
  · exact .inl rfl
  split
  · exact .inr rfl
  · exact .inl rfl
theorem P37.of {s : ByteArray} {st : RS} {rest : List UInt8} (h : Txt s st rest) (ht : st.tr = false) : P37 s (atofV st.m (expV st rest) (sgnOf s.data.toList).1).1 :=
  ⟨_, atofV_err _ _ _, fun _ r => ok37' h ht r⟩
theorem gl_fr {gl : GL} {h h' : Heap} (g : Gl gl h) (f : Fr [] h h') : Gl gl h' := g.congr fun b hb => f.blk b (g.lt b hb) (by simp)
theorem hp_gl {gl : GL} {h : Heap} (g : Gl gl h) : Hp h [Ck.glob gl] := Hp.one g
theorem gl_hp {gl : GL} {h : Heap} (H : Hp h [Ck.glob gl]) : Gl gl h := H.ok 0 _ rfl
theorem cell_h {w : World} {b : Nat} {v : Value} (h : hcell w.heap b 0 = some v) : w.cell? ⟨b, 0, none⟩ = some v := by
  unfold hcell at h
  unfold World.cell?
  cases hb : w.heap[b]? with
  | none => rw [hb] at h; cases h
  | some o => rw [hb] at h; cases o <;> simp_all
theorem call28 {s : ByteArray} {V : Nat} {h : Heap} {gl : GL} (hs : s.size ≤ 281474976710656) (hV : P37 s V) (hp : Gl gl h) :
    CallsH Tryz.prog 28 #[.string s, .int .i64 64] h fun v h' => Fr [] h h' ∧ (v = .tuple #[.float .f64 V, .nilIface] ∨ ∃ t i, v = .tuple #[.float .f64 V, .iface t i]) := by
  obtain ⟨e, he, hV⟩ := hV
  have c := hV (fun a b => a = V ∧ b = e) ⟨rfl, rfl⟩ h gl (hp_gl hp)
  apply calls28
  unfold S28
  refine callX_nil (c.mono fun v h' ⟨a, b, P, e1, e2, e3⟩ => ⟨P.fr, show v = .tuple #[.float .f64 V, errV 64 e] by rw [e1, e2, e3]⟩) ?_
  rintro v h1 f1 rfl
  refine ⟨V, ?_⟩
  rcases he with rfl | rfl
  · exact .inl ⟨rfl, cnd_f rfl ⟨f1, .inl rfl⟩⟩
  · refine .inr ⟨64, .int .i64 1, rfl, cnd_t rfl ?_⟩
    have g1 := gl_fr hp f1
    obtain ⟨te, pe, hc⟩ := g1.e2
    refine callX_nil (R := fun v _ => ∃ N, v = .iface 65 (.pointer (some ⟨N, 0, none⟩))) (fun w hw => ?_) ?_
    · have hcw : w.cell? ⟨2, 0, none⟩ = some (.iface te pe) := cell_h (by rw [hw]; exact hc)
      exact (Go.Proofs.Tryz.strconv_toError_range (⟨#[80, 97, 114, 115, 101, 70, 108, 111, 97, 116]⟩ : ByteArray) s 0 64 (.iface te pe) w hs hcw (.inr ⟨te, pe, rfl⟩)).mono
        fun e w' ⟨N, q1, q2, q3, q4⟩ => ⟨_, q1, rest_below q4, by rw [← hw]; exact fr_below q4, N, rfl⟩
    · rintro v h2 f2 ⟨N, rfl⟩
      exact .inr ⟨_, _, rfl, f1.trans f2.nil, .inr ⟨_, _, rfl⟩⟩
theorem strEq (s t : ByteArray) : (s.toList == t.toList) = decide (s.data.toList = t.data.toList) := by
  rw [toL, toL]
  by_cases h : s.data.toList = t.data.toList
  · rw [decide_eq_true h, h]; simp
  · rw [decide_eq_false h]; simpa using h
def readV (l : List UInt8) (V : Nat) : Nat × Int :=
  if l = [78, 97, 78] then (9221120237041090561, 0) else if l = [73, 78, 70] then (9218868437227405312, 0) else if l = [45, 73, 78, 70] then (18442240474082181120, 0)
  else if numF l = false then (0, 17) else if 64 < l.length then (0, 23) else if isInf (absM V) then (0, 2) else (V, 0)
theorem ok26p {R : Nat → Prop} (r : R 9218868437227405312) : Ok26 1 R := by
  apply ok26; unfold T26
  refine ⟨fun v => v = 9218868437227405312, cnd_t (by decide) rfl, ?_⟩
  rintro _ rfl
  exact callE_of (from13 _) ⟨_, rfl, r⟩
theorem ok26n {R : Nat → Prop} (r : R 18442240474082181120) : Ok26 (-1) R := by
  apply ok26; unfold T26
  refine ⟨fun v => v = 18442240474082181120, cnd_f (by decide) rfl, ?_⟩
  rintro _ rfl
  exact callE_of (from13 _) ⟨_, rfl, r⟩
theorem ok39' {x : Nat} {R : Nat → Prop} (r : R (absM x)) : Ok39 x R := by
  apply ok39; unfold T39
  exact callE_of (bits32 _) ⟨_, rfl, callE_of (from13 _) ⟨_, rfl, r⟩⟩
theorem ok29z {x : Nat} {R : Bool → Prop} (r : R (isInf (absM x))) : Ok29 x 0 R := by
  apply ok29; unfold T29
  refine ⟨fun y => y = absM x, cnd_t (by decide) (ok39' rfl), ?_⟩
  rintro _ rfl; exact r
theorem ok10' {s : ByteArray} {V : Nat} (hs : s.size < 1000000000) (hV : numF s.data.toList = true → s.size ≤ 64 → P37 s V) {R : Nat → Int → Prop} (r : R (readV s.data.toList V).1 (readV s.data.toList V).2) : Ok10 s R := by
  intro h gl H
  have g := gl_hp H
  have hsl : s.size = s.data.toList.length := rfl
  apply calls10
  unfold S10
  rw [strEq, strEq, strEq]
  unfold readV at r
  have ret : ∀ (x : Nat) (e : Int) (h' : Heap), Fr [] h h' → R x e → (fun (v : Value) (h' : Heap) => ∃ (raV : Nat) (rbV : Int), Sy h [] h' [] ∧ v = Value.tuple #[Value.float FloatKind.f64 raV, Value.int IntKind.i64 rbV] ∧ R raV rbV) (.tuple #[.float .f64 x, .int .i64 e]) h' :=
    fun x e h' f q => ⟨x, e, sy0 f, rfl, q⟩
  have k0 : ∀ {h' : Heap}, Hp h' [] := fun {h'} => Hp.nil h'
  refine cnd_dec (fun h1 => callE_of (from13 _) ⟨_, rfl, ret _ _ _ (Fr.refl _ _) (by rw [if_pos h1] at r; exact r)⟩) fun h1 => cnd_dec (fun h2 => ?_) fun h2 => cnd_dec (fun h3 => ?_) fun h3 => ?_
  · rw [if_neg h1, if_pos h2] at r
    refine callX_nil ((ok26p (R := fun q => q = 9218868437227405312) rfl h k0).mono fun v h' ⟨a, P, e1, e2⟩ => ⟨P.fr, show v = .float .f64 9218868437227405312 by rw [e1, e2]⟩) ?_
    rintro v h' f rfl
    exact ⟨_, rfl, ret _ _ _ f r⟩
  · rw [if_neg h1, if_neg h2, if_pos h3] at r
    refine callX_nil ((ok26n (R := fun q => q = 18442240474082181120) rfl h k0).mono fun v h' ⟨a, P, e1, e2⟩ => ⟨P.fr, show v = .float .f64 18442240474082181120 by rw [e1, e2]⟩) ?_
    rintro v h' f rfl
    exact ⟨_, rfl, ret _ _ _ f r⟩
  rw [if_neg h1, if_neg h2, if_neg h3] at r
  refine callX_nil ((ok27' hs (R := fun q => q = numF s.data.toList) rfl h k0).mono fun v h' ⟨a, P, e1, e2⟩ => ⟨P.fr, show v = .bool (numF s.data.toList) by rw [e1, e2]⟩) ?_
  rintro v h' f rfl
  refine ⟨_, rfl, cnd_not (fun hn => ret _ _ _ f (by rw [if_pos hn] at r; exact r)) fun hn => ?_⟩
  rw [if_neg (by rw [hn]; decide)] at r
  refine cnd_dec (fun hl => ret _ _ _ f (by rw [if_pos (by omega)] at r; exact r)) fun hl => ?_
  rw [if_neg (by omega)] at r
  have K : ∀ h5 : Heap, Fr [] h h5 → callX Tryz.prog 29 #[.float .f64 V, .int .i64 0] h5 [] fun v6 hv6 => ∃ r5 : Bool, v6 = .bool r5 ∧ cnd r5
      ((fun (v : Value) (h' : Heap) => ∃ (raV : Nat) (rbV : Int), Sy h [] h' [] ∧ v = Value.tuple #[Value.float FloatKind.f64 raV, Value.int IntKind.i64 rbV] ∧ R raV rbV) (.tuple #[.float .f64 0, .int .i64 2]) hv6)
      ((fun (v : Value) (h' : Heap) => ∃ (raV : Nat) (rbV : Int), Sy h [] h' [] ∧ v = Value.tuple #[Value.float FloatKind.f64 raV, Value.int IntKind.i64 rbV] ∧ R raV rbV) (.tuple #[.float .f64 V, .int .i64 0]) hv6) := by
    intro h5 f5
    refine callX_nil ((ok29z (x := V) (R := fun q => q = isInf (absM V)) rfl h5 k0).mono fun v h' ⟨a, P, e1, e2⟩ => ⟨P.fr, show v = .bool (isInf (absM V)) by rw [e1, e2]⟩) ?_
    rintro v h6 f6 rfl
    refine ⟨_, rfl, cnd_b (fun hi => ret _ _ _ (f5.trans f6.nil) (by rw [if_pos hi] at r; exact r)) fun hi => ret _ _ _ (f5.trans f6.nil) (by rw [if_neg (by rw [hi]; decide)] at r; exact r)⟩
  intro K0
  refine callX_nil (call28 (by omega) (hV hn (by omega)) (gl_fr g f)) ?_
  rintro v h4 f4 hv
  refine ⟨V, ?_⟩
  rcases hv with rfl | ⟨t, i, rfl⟩
  · exact .inl ⟨rfl, K _ (f.trans f4.nil)⟩
  · exact .inr ⟨t, i, rfl, K _ (f.trans f4.nil)⟩
end Go.Proofs.YtfjflbapojgbhaaGreatDoor.N
