/- 'det' is sound, all operations. Conditions: the table of types is the program's. -/
import Derived.Test.YtmcloipjlihhlaaXDet2
namespace Go.X
section
variable {P : Program} {T : TAB} {st : St} {h : Heap} {a : Act} {w : World} {K : AVal → Prop} {o : Oper} {L : List Priv} {mo : Option (List Nat)}

theorem ev_val {x : Operand} {v : Value} (r : RelL L st a w) (h : ev st x = some (.val v)) : a.eval x = v := by
  obtain ⟨u, h1, h2⟩ := ev_eval r.fr h
  simp [AVal.conc] at h1
  rw [h2, h1]
theorem ev_lit {x : Operand} {b : Bool} (r : RelL L st a w) (h : ev st x = some (.lit b)) : a.eval x = .bool b := by
  obtain ⟨u, h1, h2⟩ := ev_eval r.fr h
  simp [AVal.conc] at h1
  rw [h2, h1]
theorem det_move {x : Operand} (r : RelL L st a w) (ho : o.op = .move x ∨ o.op = .assign x) (d : det T L mo st h (.move x) K) : Out P st a w o K := by
  simp only [det] at d
  split at d
  · rename_i y h2
    obtain ⟨v, hc, hv⟩ := ev_eval r.fr h2
    exact ⟨y, v, hc, by rcases ho with ho | ho <;> simp [execOp, ho, hv], d⟩
  · exact d.elim
theorem det_pick {c x y : Operand} (r : RelL L st a w) (ho : o.op = .pick c x y) (d : det T L mo st h (.pick c x y) K) : Out P st a w o K := by
  simp only [det] at d
  split at d
  · rename_i h1
    have e1 := ev_lit r h1
    split at d
    · rename_i y h2
      obtain ⟨v, hc, hv⟩ := ev_eval r.fr h2
      exact ⟨y, v, hc, by simp [execOp, ho, hv, e1, asBool], d⟩
    · exact d.elim
  · rename_i h1
    have e1 := ev_lit r h1
    split at d
    · rename_i y h2
      obtain ⟨v, hc, hv⟩ := ev_eval r.fr h2
      exact ⟨y, v, hc, by simp [execOp, ho, hv, e1, asBool], d⟩
    · exact d.elim
  · exact d.elim
theorem det_unOp {op : UnOp} {t : Nat} {x : Operand} (r : RelL L st a w) (ho : o.op = .unOp op t x) (d : det T L mo st h (.unOp op t x) K) : Out P st a w o K := by
  simp only [det] at d
  split at d
  · rename_i h1
    have e1 := ev_lit r h1
    split at d
    · exact ⟨.lit _, _, rfl, by simp [execOp, ho, e1, Op.unary], d⟩
    · exact d.elim
  · rename_i h1
    have e1 := ev_val r h1
    split at d
    · exact out_val (by simp [execOp, ho, e1, Op.unary]) d
    · exact d.elim
  · rename_i h1
    have e1 := ev_val r h1
    split at d
    · exact out_val (by simp [execOp, ho, e1, Op.unary, Op.intArith]) d
    · exact d.elim
  · rename_i h1
    have e1 := ev_val r h1
    split at d
    · exact out_val (by simp [execOp, ho, e1, Op.unary]) d
    · exact d.elim
  · exact d.elim
theorem det_convert {s t : Nat} {x : Operand} (hT : TabOK P T) (r : RelL L st a w) (ho : o.op = .convert s t x) (d : det T L mo st h (.convert s t x) K) : Out P st a w o K := by
  simp only [det] at d
  split at d
  · rename_i si h0
    obtain ⟨ds, _, _, hds, _⟩ := (hT.tl h0).ex
    split at d
    · rename_i ti h1
      obtain ⟨dd, i, z, q1, q2, q3, q4, q5, q6, q7, q8, q9⟩ := (hT.tl h1).ex
      split at d
      · rename_i k hk
        rw [hk] at q8
        have hd : dd = .int k := by cases dd <;> simp [kidsOf] at q8; rw [q8]
        subst hd
        split at d
        · rename_i h2
          have e1 := ev_val r h2
          exact out_val (by simp [execOp, ho, e1, convert, run_underlying hds, run_underlying q1, Conv.intToInt]) d
        · exact d.elim
      · rename_i k hk
        rw [hk] at q8
        have hd : dd = .float k := by cases dd <;> simp [kidsOf] at q8; rw [q8]
        subst hd
        split at d
        · rename_i h2
          have e1 := ev_val r h2
          exact out_val (by simp [execOp, ho, e1, convert, run_underlying hds, run_underlying q1, Conv.intToFloat]) d
        · exact d.elim
      · exact d.elim
    · exact d.elim
  · exact d.elim
theorem det_extract {x : Operand} {i : Nat} (r : RelL L st a w) (ho : o.op = .extract x i) (d : det T L mo st h (.extract x i) K) : Out P st a w o K := by
  simp only [det] at d
  split at d
  · rename_i vs h1
    have e1 := ev_val r h1
    split at d
    · rename_i v h2
      exact out_val (by simp [execOp, ho, e1, Instr.extract, h2]) d
    · exact d.elim
  · exact d.elim
theorem evos_map {l : Array Operand} {vs : List Value} (r : RelL L st a w) (h : evos st l.toList = some vs) : l.map a.eval = vs.toArray := by
  apply Array.ext'
  simpa using evos_eval r.fr h
theorem det_makeFunc {fn : Fn} {first captured : Array Operand} (r : RelL L st a w) (ho : o.op = .makeFunc fn first captured) (d : det T L mo st h (.makeFunc fn first captured) K) : Out P st a w o K := by
  simp only [det] at d
  split at d
  · rename_i f h1
    split at d
    · rename_i c h2
      exact out_val (by simp [execOp, ho, Instr.makeFunc, evos_map r h1, evos_map r h2]) d
    · exact d.elim
  · exact d.elim
theorem det_field {t f : Nat} {x : Operand} (hT : TabOK P T) (r : RelL L st a w) (ho : o.op = .field t x f) (d : det T L mo st h (.field t x f) K) : Out P st a w o K := by
  simp only [det] at d
  split at d
  · rename_i shs agg by_ ze fs tg h1
    obtain ⟨dd, i, z, q1, q2, q3, q4, q5, q6, q7, q8, q9⟩ := (hT.tl h1).ex
    split at d
    · rename_i off ft h2
      split at d
      · rename_i fi h3
        have hft := hT.tl h3
        split at d
        · rename_i cs h4
          have e1 := ev_val r h4
          have hd : ∃ F, dd = .struct F ∧ fs = F.toList.map fun f => (f.offset, f.type) := by
            cases dd <;> simp [kidsOf] at q8
            exact ⟨_, rfl, q8.symm⟩
          obtain ⟨F, rfl, hfs⟩ := hd
          rw [hfs] at h2
          obtain ⟨fd, hfd, g1, g2⟩ := map_get h2
          have hs := run_sizeOf (P := P) hft w
          have ha := run_isAgg (P := P) hft w
          rw [← g2] at hs ha
          split at d
          · rename_i hagg
            rw [hagg] at ha
            exact out_val (by simp [execOp, ho, e1, Instr.field, run_underlying q1, hfd, asAgg, part, ha, hs, g1]) d
          · rename_i hagg
            rw [hagg] at ha
            split at d
            · rename_i v hv
              exact out_val (by simp [execOp, ho, e1, Instr.field, run_underlying q1, hfd, asAgg, part, ha, g1, hv]) d
            · exact d.elim
        · exact d.elim
      · exact d.elim
    · exact d.elim
  · exact d.elim
theorem det_index {t : Nat} {x i : Operand} (hT : TabOK P T) (r : RelL L st a w) (ho : o.op = .index t x i) (d : det T L mo st h (.index t x i) K) : Out P st a w o K := by
  simp only [det] at d
  split at d
  · rename_i ti h1
    have ht := hT.tl h1
    split at d
    · rename_i len e hk
      have hu := kids_array ht hk
      split at d
      · rename_i s _ _ _ _ h3
        have he := hT.tl h3
        split at d
        · rename_i k n h4
          have e1 := ev_val r h4
          split at d
          · rename_i cs h5
            have e2 := ev_val r h5
            obtain ⟨b0, b1, d⟩ := d
            obtain ⟨v, _, hv, hk2⟩ := Sh.ex_elim d
            have hs := run_sizeOf (P := P) he w
            have ha := run_isAgg (P := P) he w
            exact out_val (by simp [execOp, ho, e1, e2, Instr.index, asIntOf, run_underlying hu, b0, b1, hs, part, ha, hv]) hk2
          · exact d.elim
        · exact d.elim
      · exact d.elim
    · exact d.elim
  · exact d.elim
theorem sbound_run {x : Option Operand} {dflt y : Nat} {L' : Nat → Prop} {code : BoundsCode} (r : RelL L st a w) (h : sbound x st dflt y L') :
    ∃ n, L' n ∧ ((x = none ∧ n = dflt) ∨ (∃ u, x = some u ∧ (Instr.sliceBound (a.eval u) y code).run P w = .ok n w)) := by
  cases x with
  | none => exact ⟨dflt, h, .inl ⟨rfl, rfl⟩⟩
  | some u =>
    simp only [sbound] at h
    split at h
    · rename_i k n h1
      have e1 := ev_val r h1
      exact ⟨n.toNat, h.2.2, .inr ⟨u, rfl, by simp [Instr.sliceBound, e1, asIntOf, h.1, h.2.1]⟩⟩
    · exact h.elim
theorem det_slice {t : Nat} {x : Operand} {lo hi : Option Operand} (hT : TabOK P T) (r : RelL L st a w) (ho : o.op = .slice t x lo hi none) (d : det T L mo st h (.slice t x lo hi none) K) : Out P st a w o K := by
  simp only [det] at d
  split at d
  · rename_i ti h1
    have ht := hT.tl h1
    split at d
    · rename_i e hk
      have hu := kids_slice ht hk
      split at d
      · rename_i ei h3
        have he := hT.tl h3
        split at d
        · rename_i y h4
          obtain ⟨v, hc, hv⟩ := ev_eval r.fr h4
          obtain ⟨aa, l, c, hsv, d⟩ := asSlice_elim d hc
          obtain ⟨hh, d, q1⟩ := sbound_run (P := P) (code := .sliceAcap) r d
          obtain ⟨ll, d, q2⟩ := sbound_run (P := P) (code := .sliceB) r d
          have hb : (Instr.sliceBounds true l c (lo.map a.eval) (hi.map a.eval) none).run P w = .ok (ll, hh, c) w := by
            rcases q1 with ⟨rfl, rfl⟩ | ⟨u, rfl, q1⟩ <;> rcases q2 with ⟨rfl, rfl⟩ | ⟨u', rfl, q2⟩ <;> simp [Instr.sliceBounds, *]
          refine out_val ?_ d
          simp [execOp, ho, hv, hsv, Instr.sliceAt, run_underlying hu, Instr.slice, hb, run_sizeOf he]
        · exact d.elim
      · exact d.elim
    · exact d.elim
  · exact d.elim
theorem det_slice3 {t : Nat} {x hi mx : Operand} {lo : Option Operand} (hT : TabOK P T) (r : RelL L st a w) (ho : o.op = .slice t x lo (some hi) (some mx)) (d : det T L mo st h (.slice t x lo (some hi) (some mx)) K) : Out P st a w o K := by
  simp only [det] at d
  split at d
  · rename_i ti h1
    have ht := hT.tl h1
    split at d
    · rename_i e hk
      have hu := kids_slice ht hk
      split at d
      · rename_i ei h3
        have he := hT.tl h3
        split at d
        · rename_i y h4
          obtain ⟨v, hc, hv⟩ := ev_eval r.fr h4
          obtain ⟨aa, l, c, hsv, d⟩ := asSlice_elim d hc
          obtain ⟨mm, d, q0⟩ := sbound_run (P := P) (code := .slice3Acap) r d
          obtain ⟨hh, d, q1⟩ := sbound_run (P := P) (code := .slice3B) r d
          obtain ⟨ll, d, q2⟩ := sbound_run (P := P) (code := .slice3C) r d
          have hb : (Instr.sliceBounds true l c (lo.map a.eval) (some (a.eval hi)) (some (a.eval mx))).run P w = .ok (ll, hh, mm) w := by
            rcases q0 with ⟨h0, _⟩ | ⟨u0, h0, q0⟩
            · cases h0
            rcases q1 with ⟨h1, _⟩ | ⟨u1, h1, q1⟩
            · cases h1
            cases h0; cases h1
            rcases q2 with ⟨rfl, rfl⟩ | ⟨u', rfl, q2⟩ <;> simp [Instr.sliceBounds, *]
          refine out_val ?_ d
          simp [execOp, ho, hv, hsv, Instr.sliceAt, run_underlying hu, Instr.slice, hb, run_sizeOf he]
        · exact d.elim
      · exact d.elim
    · exact d.elim
  · exact d.elim
theorem fmm_min {k : FloatKind} {x y r : Nat} (k' : FloatKind) (h : fmm k false x y = some r) : Builtin.min2 (.float k x) (.float k' y) = pure (.float k r) := by
  unfold fmm at h
  unfold Builtin.min2
  cases ho : k.format.order x y with
  | none => rw [ho] at h; cases h
  | some o => cases o <;> simp_all
theorem fmm_max {k : FloatKind} {x y r : Nat} (k' : FloatKind) (h : fmm k true x y = some r) : Builtin.max2 (.float k x) (.float k' y) = pure (.float k r) := by
  unfold fmm at h
  unfold Builtin.max2
  cases ho : k.format.order x y with
  | none => rw [ho] at h; cases h
  | some o => cases o <;> simp_all
theorem det_call {c : Call} (hT : TabOK P T) (r : RelL L st a w) (ho : o.op = .call c) (d : det T L mo st h (.call c) K) : Out P st a w o K := by
  have single : ∀ {α : Type} {l : Array α} {x : α}, l.toList = [x] → l = #[x] := fun h => by apply Array.ext'; simpa using h
  have pair : ∀ {α : Type} {l : Array α} {x y : α}, l.toList = [x, y] → l = #[x, y] := fun h => by apply Array.ext'; simpa using h
  simp only [det] at d
  split at d
  · rename_i hc
    split at d
    · rename_i x hx
      split at d
      · rename_i t htt
        split at d
        · rename_i ti h1
          split at d
          · rename_i e hk
            have hu := kids_slice (hT.tl h1) hk
            split at d
            · rename_i y h4
              obtain ⟨v, hcv, hv⟩ := ev_eval r.fr h4
              have hlen : ∃ aa n cc, v = .slice aa n cc ∧ K (.val (.int .i64 (n : Int))) := by
                cases y with
                | val u => cases u <;> simp only [lenOfX] at d <;> try exact d.elim
                           simp [AVal.conc] at hcv; exact ⟨_, _, _, hcv.symm, d⟩
                | sl => simp [AVal.conc] at hcv; exact ⟨_, _, _, hcv.symm, d⟩
                | row =>
                  simp only [AVal.conc, Option.map_eq_some_iff] at hcv
                  obtain ⟨p, _, hp⟩ := hcv
                  exact ⟨_, _, _, hp.symm, d⟩
                | _ => exact d.elim
              obtain ⟨aa, n, cc, rfl, d⟩ := hlen
              exact out_val (by simp [execOp, ho, resolve, hc, single hx, single htt, hv, invoke, builtin, Builtin.len_, run_underlying hu, goInt]) d
            · exact d.elim
          · exact d.elim
        · exact d.elim
      · exact d.elim
    · exact d.elim
  · rename_i hc
    split at d
    · rename_i x hx
      split at d
      · rename_i t htt
        split at d
        · rename_i ti h1
          split at d
          · rename_i e hk
            have hu := kids_slice (hT.tl h1) hk
            split at d
            · rename_i y h4
              obtain ⟨v, hcv, hv⟩ := ev_eval r.fr h4
              have hlen : ∃ aa n cc, v = .slice aa n cc ∧ K (.val (.int .i64 (cc : Int))) := by
                cases y with
                | val u => cases u <;> simp only [capOfX] at d <;> try exact d.elim
                           simp [AVal.conc] at hcv; exact ⟨_, _, _, hcv.symm, d⟩
                | sl => simp [AVal.conc] at hcv; exact ⟨_, _, _, hcv.symm, d⟩
                | row =>
                  simp only [AVal.conc, Option.map_eq_some_iff] at hcv
                  obtain ⟨p, _, hp⟩ := hcv
                  exact ⟨_, _, _, hp.symm, d⟩
                | _ => exact d.elim
              obtain ⟨aa, n, cc, rfl, d⟩ := hlen
              exact out_val (by simp [execOp, ho, resolve, hc, single hx, single htt, hv, invoke, builtin, Builtin.cap_, run_underlying hu, goInt]) d
            · exact d.elim
          · exact d.elim
        · exact d.elim
      · exact d.elim
    · exact d.elim
  · rename_i hc
    split at d
    · rename_i x y hx
      split at d
      · rename_i k aa h1
        split at d
        · rename_i k' bb h2
          exact out_val (by simp [execOp, ho, resolve, hc, pair hx, ev_val r h1, ev_val r h2, invoke, builtin, Builtin.min_, Builtin.min2]) d
        · exact d.elim
      · rename_i k aa h1
        split at d
        · rename_i k' bb h2
          obtain ⟨rr, hr, d⟩ := d
          have e := fmm_min k' hr
          exact out_val (by simp [execOp, ho, resolve, hc, pair hx, ev_val r h1, ev_val r h2, invoke, builtin, Builtin.min_, e]) d
        · exact d.elim
      · exact d.elim
    · exact d.elim
  · rename_i hc
    split at d
    · rename_i x y hx
      split at d
      · rename_i k aa h1
        split at d
        · rename_i k' bb h2
          exact out_val (by simp [execOp, ho, resolve, hc, pair hx, ev_val r h1, ev_val r h2, invoke, builtin, Builtin.max_, Builtin.max2]) d
        · exact d.elim
      · rename_i k aa h1
        split at d
        · rename_i k' bb h2
          obtain ⟨rr, hr, d⟩ := d
          have e := fmm_max k' hr
          exact out_val (by simp [execOp, ho, resolve, hc, pair hx, ev_val r h1, ev_val r h2, invoke, builtin, Builtin.max_, e]) d
        · exact d.elim
      · exact d.elim
    · exact d.elim
  · exact d.elim
theorem places_ok (hT : TabOK P T) : ∀ {fs : List Field} {pl : List (Nat × Nat)}, placesT T (fs.map fun f => (f.offset, f.type)) = some pl →
    fs.mapM (fun f => (P.info? f.type).map fun i => (f.offset, i.size)) = some pl
  | [], pl, h => by simp [placesT] at h; subst h; rfl
  | f :: fs, pl, h => by
    simp only [List.map_cons, placesT] at h
    split at h
    · rename_i fi h1
      split at h
      · rename_i q h2
        simp only [Option.some.injEq] at h
        subst h
        obtain ⟨dd, i, z, q1, q2, q3, _⟩ := (hT.tl h1).ex
        simp [q2, q3, places_ok hT h2]
      · cases h
    · cases h
theorem det_build {t : Nat} {parts : Array (Nat × Operand)} (hT : TabOK P T) (r : RelL L st a w) (ho : o.op = .build t parts) (d : det T L mo st h (.build t parts) K) : Out P st a w o K := by
  simp only [det] at d
  split at d
  · rename_i ti h1
    obtain ⟨dd, i, z, q1, q2, q3, q4, q5, q6, q7, q8, q9⟩ := (hT.tl h1).ex
    have hz : z.cells = ti.zero.toArray := by rw [← q6]
    split at d
    · rename_i ps h2
      have hps := evps_eval r.fr h2
      have run : ∀ cells : List Value, P.built t ps = some cells.toArray → K (.val (.agg cells.toArray)) → Out P st a w o K := by
        intro cells hb hk
        have hb' : P.built t (parts.map fun (i, x) => (i, a.eval x)).toList = some cells.toArray := by rw [Array.toList_map, hps]; exact hb
        have := run_build (P := P) w t _ _ hb'
        exact out_val (by simp only [execOp, ho]; rw [bind_ok this]; rfl) hk
      split at d
      · rename_i fs hk
        split at d
        · rename_i pl h3
          split at d
          · rename_i cells h4
            refine run cells ?_ d
            rw [hk] at q8
            have hd : ∃ F, dd = .struct F ∧ fs = F.toList.map fun f => (f.offset, f.type) := by
              cases dd <;> simp [kidsOf] at q8
              exact ⟨_, rfl, q8.symm⟩
            obtain ⟨F, rfl, rfl⟩ := hd
            have hf := fill_of h4
            simp only [Program.built, q2, q1, q5, places_ok hT h3, hz]
            simpa using hf
          · exact d.elim
        · exact d.elim
      · rename_i n e hk
        split at d
        · rename_i ei h3
          split at d
          · rename_i cells h4
            refine run cells ?_ d
            have hu := kids_array (hT.tl h1) hk
            obtain ⟨de, ie, ze, p1, p2, p3, _⟩ := (hT.tl h3).ex
            have hf := fill_of h4
            simp only [Program.built, q2, hu, q5, p2, p3, hz]
            exact hf
          · exact d.elim
        · exact d.elim
      · exact d.elim
    · exact d.elim
  · exact d.elim
theorem det_sound (hT : TabOK P T) (r : RelL L st a w) (hh : Fr (mo.getD []) h w.heap) (d : det T L mo st h o.op K) : Out P st a w o K := by
  cases ho : o.op <;> rw [ho] at d
  case move x => exact det_move r (.inl ho) d
  case assign x => exact det_move (T := T) (h := h) (L := L) (mo := mo) r (.inr ho) d
  case pick => exact det_pick r ho d
  case load => exact det_load hT r hh ho d
  case nilCheck => exact det_nilCheck r ho d
  case fieldAddr => exact det_fieldAddr hT r ho d
  case indexAddr => exact det_indexAddr hT r ho d
  case binOp => exact det_binOp hT r ho d
  case unOp => exact det_unOp r ho d
  case build => exact det_build hT r ho d
  case convert => exact det_convert hT r ho d
  case extract => exact det_extract r ho d
  case makeFunc => exact det_makeFunc r ho d
  case field => exact det_field hT r ho d
  case index => exact det_index hT r ho d
  case slice t x lo hi mx =>
    cases mx with
    | none => exact det_slice hT r ho d
    | some m => cases hi with
      | none => exact d.elim
      | some h => exact det_slice3 hT r ho d
  case call => exact det_call hT r ho d
  all_goals exact d.elim
end
end Go.X
