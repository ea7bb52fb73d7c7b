/- Package graph: a copy; what undoes something is the copy's from then on. Conditions: none. -/
import Derived.Test.YtmcloipjlihhlaaNGrT
set_option linter.unusedSimpArgs false
namespace Go.X
/-- Nothing is told of what undoes what was done. -/
def Gr.forget (G : Gr) : Gr := { G with undo := G.undo.map fun _ => .any }
theorem Gr.forget_undo (G : Gr) : G.forget.undo.length = G.undo.length := by simp [Gr.forget]
theorem Gr.dropAll_ulen {G : Gr} {v : Int} : (G.dropAll v).undo.length ≤ G.undo.length + G.edges.length + 1 := by
  have h1 : (G.dropAll v).undo.length ≤ ((G.at v).foldl Gr.dropE G).undo.length + 1 := Gr.did_undo _ _
  have h2 := (Gr.dropEs (G.at v) G).2.2
  have h3 : (G.at v).length ≤ G.edges.length := atL_len _ _ _
  omega
theorem Gr.dropAll_marks {G : Gr} {v : Int} : (G.dropAll v).marks = G.marks := by
  have : ∀ (l : List Int) (G : Gr), (l.foldl Gr.dropE G).marks = G.marks := by
    intro l
    induction l with
    | nil => intro G; rfl
    | cons e l ih => intro G; rw [List.foldl_cons, ih, Gr.dropE_marks]
  rw [Gr.dropAll, Gr.dropN_marks, this]
def FnR.bare (r : FnR) : FnR := ⟨r.f, r.x, r.y, []⟩
theorem bare_val (rs : List FnR) : (rs.map FnR.bare).map FnR.val = rs.map FnR.val := by rw [List.map_map]; rfl
section
variable {h0 h h' : Heap} {M : List Nat} {cs : List Ck} {a : Option Addr} {n c k j : Nat} {rs : List FnR} {us : List Und}
/-- All that undoes something goes over to a new slice. -/
theorem Sy.copyUn (Y : Sy h0 M h cs) (k j : Nat) (hne : k ≠ j) {g : Nat} (hk : cs[k]? = some (Ck.sl eI 227 (some ⟨g, 0, none⟩) 0 0 [])) (hj : cs[j]? = some (Ck.un a n c rs us))
    {sA : Option Addr} {sC m : Nat} (hm : m = n) (ow : Ownd h' 227 1 sA m sC (rs.map FnR.val)) (f : Fr [g] h h') (hg : sA = some ⟨g, 0, none⟩ ∨ ∃ g', sA = some ⟨g', 0, none⟩ ∧ h.size ≤ g') :
    Sy h0 M h' ((cs.set k (Ck.un sA m sC rs us)).set j (Ck.un a n c (rs.map FnR.bare) (us.map fun _ => .any))) := by
  subst hm
  have R : UnOK .. := Y.ok hj
  have lit : g ∈ (Ck.sl eI 227 (some ⟨g, 0, none⟩) 0 0 []).own := by simp [Ck.sl, blkOf]
  have glt : g < h.size := ((Ck.sl eI 227 (some ⟨g, 0, none⟩) 0 0 []).lt h (Y.ok hk)).1 g lit
  have inB : ∀ d ∈ blkOf a, d ∈ (Ck.un a m c rs us).own := fun d hd => List.mem_append_left _ hd
  have inR : ∀ s ∈ rs, ∀ d ∈ s.bs, d ∈ (Ck.un a m c rs us).own := fun s hs d hd => List.mem_append_right _ (List.mem_flatMap.2 ⟨s, hs, hd⟩)
  have gB : g ∉ (Ck.un a m c rs us).own := (Y.hp.ap k j _ _ hne hk hj g lit).1
  have lt : ∀ d ∈ (Ck.un a m c rs us).own, d < h.size := ((Ck.un a m c rs us).lt h R).1
  have same : ∀ d ∈ (Ck.un a m c rs us).own, h'[d]? = h[d]? := fun d hd => f.blk d (lt d hd) (by simp; rintro rfl; exact gB hd)
  have sAb : ∀ d ∈ blkOf sA, d = g ∨ h.size ≤ d := by
    intro d hd
    rcases hg with rfl | ⟨g', rfl, hg⟩
    · simp [blkOf] at hd; exact .inl hd
    · simp [blkOf] at hd; subst hd; exact .inr hg
  have sAn : ∀ d ∈ (Ck.un a m c rs us).own, d ∉ blkOf sA := fun d hd q => by
    rcases sAb d q with rfl | q
    · exact gB hd
    · have := lt d hd; omega
  have bareOwn : (Ck.un a m c (rs.map FnR.bare) (us.map fun _ => .any)).own = blkOf a := by
    have : (rs.map FnR.bare).flatMap FnR.bs = [] := by simp [FnR.bare]
    show blkOf a ++ _ = _
    rw [this, List.append_nil]
  refine Y.mut2 hne hk hj _ _ f.size (fun d hd hn => f.blk d hd (by simp; rintro rfl; exact hn lit)) ?_ ?_ (fun d hd => ?_) (fun d hd => ?_) (fun d hd => by simp [Ck.un] at hd) (fun d hd => by simp [Ck.un] at hd) (fun d hd => ?_) (fun d hd => ?_)
  · exact ⟨ow, R.ln, R.lu, fun i r u h1 h2 => (R.row i r u h1 h2).blk fun d hd => same d (inR r (List.mem_of_getElem? h1) d hd), fun r hr d hd => sAn d (inR r hr d hd)⟩
  · refine ⟨by rw [bare_val]; exact R.out.blk fun d hd => same d (inB d hd), by simp [R.ln], by simp [R.lu], fun i r u h1 h2 => ?_, fun r hr d hd => ?_⟩
    · rw [List.getElem?_map, Option.map_eq_some_iff] at h1 h2
      obtain ⟨r', -, rfl⟩ := h1
      obtain ⟨u', -, rfl⟩ := h2
      rfl
    · obtain ⟨r', -, rfl⟩ := List.mem_map.1 hr
      simp [FnR.bare] at hd
  · simp only [Ck.un, List.mem_append] at hd
    rcases hd with hd | hd
    · rcases sAb d hd with rfl | q
      · exact .inl lit
      · exact .inr (.inr q)
    · exact .inr (.inl (List.mem_append_right _ hd))
  · rw [bareOwn] at hd
    exact .inr (.inl (inB d hd))
  · refine ⟨fun q => ?_, by simp [Ck.un]⟩
    rw [bareOwn] at q
    simp only [Ck.un, List.mem_append, List.mem_flatMap] at hd
    rcases hd with hd | ⟨r, hr, hd⟩
    · exact sAn d (inB d q) hd
    · exact R.na r hr d hd q
  · rw [bareOwn] at hd
    refine ⟨fun q => ?_, by simp [Ck.un]⟩
    simp only [Ck.un, List.mem_append, List.mem_flatMap] at q
    rcases q with q | ⟨r, hr, q⟩
    · exact sAn d (inB d hd) q
    · exact R.na r hr d q hd
end
end Go.X
namespace Go.Proofs.Ytmcloipjlihhlaa.N
open Go.Proofs.Ytmcloipjlihhlaa
open Go.X
theorem val_one (rs : List FnR) : ∀ v ∈ rs.map FnR.val, v.oneCell' = true := fun v hv => by
  obtain ⟨r, -, rfl⟩ := List.mem_map.1 hv
  rfl
theorem copyG (G : Gr) (hr : G.room 1) (hm : G.marks.length ≤ 64) : ∀ (h : Heap) (b : Nat) (bs : List Nat), Hp h [Ck.gr b bs G] →
    CallsH Try.prog 105 #[.pointer (some ⟨b, 0, none⟩)] h fun v h' => ∃ cb cbs bs', Sy h (owns [Ck.gr b bs G]) h' [Ck.gr b bs' G.forget, Ck.gr cb cbs G] ∧ v = .pointer (some ⟨cb, 0, none⟩) := by
  intro h b bs hp
  obtain ⟨r1, r2, r3⟩ := hr
  have Y : Sy h _ h [_] := Sy.startM hp rfl
  apply calls105
  unfold S105
  refine GC.step (g162 G) Y alln fun _ h1 bs1 G1 Y ⟨e1, e2⟩ => ⟨false, e1, cnd_f rfl ?_⟩
  subst e2
  obtain ⟨nA, nL, nC, eA, eL, eC, uA, uL, uC, rs, mA, mL, mC, Y⟩ := Y.openG
  have Y : Sy _ _ h1 [_, _, _, _, _] := Y
  obtain rfl := Y.lenS 1 rfl
  obtain rfl := Y.lenS 2 rfl
  obtain rfl := Y.lenU 3 rfl
  obtain rfl := Y.lenS 4 rfl
  refine ⟨b, 0, rfl, _, Y.cellO 0 rfl 0 rfl, _, _, _, Y.cellO 0 rfl 1 rfl, _, _, _, Y.cellO 0 rfl 2 rfl, _, Y.cellO 0 rfl 3 rfl, _, Y.cellO 0 rfl 4 rfl, _, _, _, Y.cellO 0 rfl 5 rfl, _, _, _, Y.cellO 0 rfl 6 rfl, _, Y.cellO 0 rfl 7 rfl, ?_⟩
  intro hv2
  have Y : Sy _ _ hv2 [_, _, _, _, _, _] := Y.newO (ty := 204) [.bool false, .slice none 0 0, .slice none 0 0, .int .i64 0, .int .i64 0, .slice none 0 0, .slice none 0 0, .int .i64 0]
  clear_value hv2
  refine ⟨⟨_, Y.cellO 5 rfl 0 rfl⟩, Y.freeO 5 rfl _, ⟨_, Y.cellO 5 rfl 1 rfl⟩, Y.freeO 5 rfl _, ⟨_, Y.cellO 5 rfl 2 rfl⟩, Y.freeO 5 rfl _, ⟨_, Y.cellO 5 rfl 3 rfl⟩, Y.freeO 5 rfl _, ⟨_, Y.cellO 5 rfl 4 rfl⟩, Y.freeO 5 rfl _, ⟨_, Y.cellO 5 rfl 5 rfl⟩, Y.freeO 5 rfl _, ⟨_, Y.cellO 5 rfl 6 rfl⟩, Y.freeO 5 rfl _, ⟨_, Y.cellO 5 rfl 7 rfl⟩, Y.freeO 5 rfl _, ?_⟩
  intro hv3
  have Y : Sy _ _ hv3 [_, _, _, _, _, _] := ((((((((Y.stO 5 rfl 0 _).stO 5 rfl 1 _).stO 5 rfl 2 _).stO 5 rfl 3 _).stO 5 rfl 4 _).stO 5 rfl 5 _).stO 5 rfl 6 _).stO 5 rfl 7 _)
  clear_value hv3
  have Y : Sy _ _ hv3 [_, _, _, _, _, _, _] := Y.nilS eB 4
  refine ⟨b, 0, rfl, _, _, _, Y.cellO 0 rfl 1 rfl, _, Y.readsS 1 rfl, (Y.capS 1 rfl).2.2, En.l_one _, _, Y.ownS 6 rfl, alln, by omega, by simp [maxLen]; omega, ?_⟩
  intro sA sC hv5 ow fA gA gB
  have Y : Sy _ _ hv5 [_, _, _, _, _, _, _] := Y.appS 6 rfl G1.nodes ow fA gA rfl rfl
  refine ⟨⟨_, Y.cellO 5 rfl 1 rfl⟩, Y.freeO 5 rfl _, ?_⟩
  intro hv6
  have Y : Sy _ _ hv6 [_, _, _, _, _, _, _] := Y.stO 5 rfl 1 _
  clear_value hv6
  have Y : Sy _ _ hv6 [_, _, _, _, _, _, _, _] := Y.nilS e2B 199
  refine ⟨b, 0, rfl, _, _, _, Y.cellO 0 rfl 2 rfl, _, Y.readsS 2 rfl, (Y.capS 2 rfl).2.2, En.l_one _, _, Y.ownS 7 rfl, alln, by omega, by simp [maxLen]; omega, ?_⟩
  intro sA2 sC2 hv8 ow fA gA gB
  have Y : Sy _ _ hv8 [_, _, _, _, _, _, _, _] := Y.appS 7 rfl G1.edges ow fA gA rfl rfl
  refine ⟨⟨_, Y.cellO 5 rfl 2 rfl⟩, Y.freeO 5 rfl _, ?_⟩
  intro hv9
  have Y : Sy _ _ hv9 [_, _, _, _, _, _, _, _] := Y.stO 5 rfl 2 _
  clear_value hv9
  intro hv10
  have Y : Sy _ _ hv10 [_, _, _, _, _, _, _, _, _] := Y.litS (E := eI) (ty := 227) [] rfl (by decide)
  clear_value hv10
  have ou := Y.ownU 3 rfl
  have l1 : rs.length = G1.undo.length := (Y.ok (k := 3) rfl : UnOK ..).ln
  refine ⟨b, 0, rfl, _, _, _, Y.cellO 0 rfl 5 rfl, rs.map FnR.val, ou.reads, ou.nc, val_one rs, [], Y.ownS 8 rfl, alln, by omega, by simp [maxLen]; omega, ?_⟩
  intro sA3 sC3 hv12 ow fA gA gB
  have Y : Sy _ _ hv12 [_, _, _, _, _, _, _, _, _] := Y.copyUn 8 3 (by decide) rfl rfl (Nat.zero_add _) ow fA (gA.imp (·.1) id)
  refine ⟨⟨_, Y.cellO 5 rfl 5 rfl⟩, Y.freeO 5 rfl _, ?_⟩
  intro hv13
  have Y : Sy _ _ hv13 [_, _, _, _, _, _, _, _, _] := Y.stO 5 rfl 5 _
  clear_value hv13
  have Y : Sy _ _ hv13 [_, _, _, _, _, _, _, _, _, _] := Y.nilS eP 226
  refine ⟨b, 0, rfl, _, _, _, Y.cellO 0 rfl 6 rfl, _, Y.readsS 4 rfl, (Y.capS 4 rfl).2.2, En.l_one _, _, Y.ownS 9 rfl, alln, by omega, by simp [maxLen]; omega, ?_⟩
  intro sA4 sC4 hv15 ow fA gA gB
  have Y : Sy _ _ hv15 [_, _, _, _, _, _, _, _, _, _] := Y.appS 9 rfl G1.marks ow fA gA rfl rfl
  refine ⟨⟨_, Y.cellO 5 rfl 6 rfl⟩, Y.freeO 5 rfl _, ?_⟩
  intro hv16
  have Y : Sy _ _ hv16 [_, _, _, _, _, _, _, _, _, _] := Y.stO 5 rfl 6 _
  clear_value hv16
  have Y1 := Sy.packG G1 (B := [_, _, _, _, _]) (Y.pick [5, 6, 7, 8, 9, 0, 1, 2, 3, 4] rfl)
  have Y2 := Sy.packG G1.forget (B := [_]) (Y1.pick [1, 2, 3, 4, 5, 0] rfl)
  exact ⟨_, _, _, Y2, rfl⟩
end Go.Proofs.Ytmcloipjlihhlaa.N
