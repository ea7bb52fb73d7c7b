/- Whole numbers read and written by the library's contracts; the program's whole. Conditions: what the tables hold. -/
import Derived.Test.YtlflalecmhgmjaaGreatDoorHNext
import Derived.Test.YtlflalecmhgmjaaGreatDoorSRd
import Derived.Lib.ConvBytes
import Derived.Lib.ParseIntBTie
import Derived.Test.YtlflalecmhgmjaaGreatDoorWEnv
import Derived.Test.YtlflalecmhgmjaaGreatDoorYGl
import Derived.Test.YtlflalecmhgmjaaGreatDoorHBr
import Derived.Tactics
import Derived.Tactics2
import Derived.Laws.Pointers
import Derived.Test.YtlflalecmhgmjaaGreatDoorGTell
set_option linter.unusedVariables false
set_option linter.unusedSimpArgs false
namespace Go.Proofs.YtlflalecmhgmjaaGreatDoor.N
open Go.Proofs.YtlflalecmhgmjaaGreatDoor
open Go.X
open Go.RowKit (Below)
set_option maxRecDepth 100000
theorem Gl.tab {gl:GL} {w:World} (g:Gl gl w.heap):Lib.TabIs Tryz.prog w "internal/strconv.uint64pow10" .u64 Lib.pow10Tab:=by
 obtain⟨e,f,q⟩:=g.uu
 have hg:Tryz.prog.globalNamed "internal/strconv.uint64pow10" =some 2:=by kernel_rfl
 unfold Lib.TabIs World.var?
 rw[hg]
 show(match w.heap[2]? with | some (.cells cs _ _)=>some cs | _=>none)=_
 rw[q]
 rfl
theorem ok155 {gl:GL} {n:Int} {h:Heap} (g:Gl gl h) (h0: -9223372036854775808<=n) (h1:n<=9223372036854775807):CallsH Tryz.prog 155 #[.int .i64 n,.int .i64 10] h fun v h'=>v= .string ⟨(Lib.itoa n).toArray⟩/\Fr [] h h':=by
 intro w hw
 subst hw
 refine(Go.Proofs.Tryz.strconv_FormatInt_10 n h0 h1 w (Gl.tab g)).mono fun e w' ⟨e1,k,os,e2⟩=>⟨_,e1,?_,rfl,?_⟩
 ·subst e2;exact⟨rfl,rfl,rfl,by simp[Sort.grow]⟩
 ·subst e2;exact⟨by simp[Sort.grow],fun j hj _=>Sort.heap_grow_old _ _ hj⟩
theorem ok154 {gl:GL} {s:ByteArray} {h:Heap} (g:Gl gl h) (hs:s.size<=262144):CallsH Tryz.prog 154 #[.string s,.int .i64 10,.int .i64 64] h fun v h'=>
  ((∃n,Lib.parseIntB 64 s.data.toList= .ok n/\v= .tuple #[.int .i64 n,.nilIface])\/((∀n,Lib.parseIntB 64 s.data.toList≠ .ok n)/\∃n t x,v= .tuple #[.int .i64 n,.iface t x]))/\Fr [] h h':=by
 intro w hw
 subst hw
 cases q:Lib.parseIntB 64 s.data.toList with
 | ok n=>
  refine(Go.Proofs.Tryz.strconv_ParseInt_10_at64_ok s (by omega) n q w).mono fun e w' ⟨e1,e2⟩=>⟨_,e1,?_,.inl ⟨n,rfl,rfl⟩,?_⟩
  ·rcases e2 with rfl | ⟨t,rfl⟩
   ·exact Rest.refl _
   ·exact rest_below (⟨rfl,rfl,rfl,by rw[Lib.bytesWorld_size];omega,fun k hk=>Lib.bytesWorld_at_old w _ _ k hk⟩)
  ·rcases e2 with rfl | ⟨t,rfl⟩
   ·exact Fr.refl _ _
   ·exact fr_below (⟨rfl,rfl,rfl,by rw[Lib.bytesWorld_size];omega,fun k hk=>Lib.bytesWorld_at_old w _ _ k hk⟩)
 | range=>
  obtain⟨te,pe,hc⟩:=g.e2
  exact(Go.Proofs.Tryz.strconv_ParseInt_10_at64_range s (by omega) q (.iface te pe) w ((cell_hcell _ _ _).trans hc) (.inr ⟨te,pe,rfl⟩)).mono fun e w' ⟨N,q1,q2,q3,q4⟩=>⟨_,q1,rest_below q4,.inr ⟨(by intro n h;cases h),_,_,_,rfl⟩,fr_below q4⟩
 | _=>
  obtain⟨te,pe,hc⟩:=g.e1
  exact(Go.Proofs.Tryz.strconv_ParseInt_10_at64_syntax s (by omega) q (.iface te pe) w ((cell_hcell _ _ _).trans hc) (.inr ⟨te,pe,rfl⟩)).mono fun e w' ⟨N,q1,q2,q3,q4⟩=>⟨_,q1,rest_below q4,.inr ⟨(by intro n h;cases h),_,_,_,rfl⟩,fr_below q4⟩
theorem ok112 {gl:GL} {t:G.Tok} {h:Heap} (g:Gl gl h) (hs:t.says.size<=262144):
  CallsP Tryz.prog 112 #[tokV t] h (fun v h'=>∃n,G.whole t.l=some n/\v= .int .i64 n/\Fr [] h h') (fun v h'=>G.whole t.l=none/\v=flt (t.at_,17)/\Fr [] h h'):=by
 unfold tokV
 apply calls112
 unfold S112
 intro hv
 have f1:Fr [] h hv:=Fr.push h _
 have e1:hv.size=h.size+1:=by simp[hv]
 clear_value hv
 have H:∀x∈([h.size]:List Nat),x∉([]:List Nat):=by simp
 refine callX_ofR [] (ok154 (g.fr f1 (by simp)) hs) H (fun _ _ r=>r.2) fun v hv2 r=>?_
 obtain⟨r,f2⟩:=r
 have f2':=f1.trans f2
 rcases r with⟨n,q,rfl⟩ | ⟨q,n,te,x,rfl⟩
 ·refine ⟨n,.inl ⟨rfl,?_⟩⟩
  intro K
  refine cnd_t rfl ?_
  have hl:=G.whole_ok q
  have hr:=Lib.parseIntB_bounds q
  simp at hr
  refine callX_ofR [] (ok155 (g.fr f2' (by simp)) (by omega) (by omega)) H (fun _ _ r=>r.2) fun v hv3 r=>?_
  obtain⟨rfl,f3⟩:=r
  refine⟨_,rfl,f3,?_⟩
  rw[str_eq]
  refine cnd_dec (fun q1=>?_) fun q1=>?_
  ·refine cnd_dec (fun q2=>?_) fun q2=>?_
   ·refine callMust (fun q3=>⟨rfl,f3,n,?_,rfl,f2'.trans f3⟩) fun q3=>⟨?_,rfl,f2'.trans f3⟩
    ·rw [if_pos ⟨by simpa using q1,q2,of_decide_eq_true q3⟩]at hl;exact hl
    ·rw [if_neg (fun z=>of_decide_eq_false q3 z.2.2)]at hl;exact hl
   ·refine callMust (fun q3=>absurd q3 (by decide)) fun q3=>⟨?_,rfl,f2'.trans f3⟩
    rw[if_neg (fun z=>q2 z.2.1)]at hl;exact hl
  ·refine callMust (fun q3=>absurd q3 (by decide)) fun q3=>⟨?_,rfl,f2'.trans f3⟩
   rw[if_neg (fun z=>q1 (by simpa using z.1))]at hl;exact hl
 ·refine ⟨n,.inr ⟨te,x,rfl,?_⟩⟩
  intro K
  refine cnd_f rfl ⟨Fr.refl _ _,?_⟩
  refine callMust (fun q3=>absurd q3 (by decide)) fun q3=>⟨G.whole_bad q,rfl,f2'⟩
end Go.Proofs.YtlflalecmhgmjaaGreatDoor.N
namespace Go.X
def rds (cs:List Ck):List Nat:=cs.flatMap Ck.rd
theorem mem_rds {cs:List Ck} {b:Nat}:b∈rds cs ↔ ∃(k:Nat) (c:Ck),cs[k]? =some c/\b∈c.rd:=by
 simp only[rds,List.mem_flatMap]
 exact⟨fun⟨c,h1,h2⟩=>let ⟨k,h3⟩:=List.mem_iff_getElem?.1 h1;⟨k,c,h3,h2⟩,fun⟨k,c,h1,h2⟩=>⟨c,List.mem_of_getElem? h1,h2⟩⟩
theorem memOwns {cs:List Ck} {b:Nat}:b∈owns cs ↔ ∃(k:Nat) (c:Ck),cs[k]? =some c/\b∈c.own:=by
 simp only[owns,List.mem_flatMap]
 exact⟨fun⟨c,h1,h2⟩=>let ⟨k,h3⟩:=List.mem_iff_getElem?.1 h1;⟨k,c,h3,h2⟩,fun⟨k,c,h1,h2⟩=>⟨c,List.mem_of_getElem? h1,h2⟩⟩
structure Sq (h0:Heap) (C:List Ck) (h:Heap) (cs:List Ck):Prop where
 sy:Sy h0 (owns C) h cs
 ri:∀b∈rds cs,b∈rds C\/b∈owns C\/h0.size<=b
theorem Sq.start {h:Heap} {cs:List Ck} (H:Hp h cs):Sq h cs h cs:=⟨Sy.start H,fun b hb=>.inl hb⟩
theorem Sq.hp {h0 h:Heap} {C cs:List Ck} (q:Sq h0 C h cs):Hp h cs:=q.sy.hp
theorem Sq.fr {h0 h:Heap} {C cs:List Ck} (q:Sq h0 C h cs):Fr (owns C) h0 h:=q.sy.fr
section
variable {h0 h h':Heap} {C A B cs cs':List Ck}
theorem app_l {k:Nat} {c:Ck} (hk:A[k]? =some c):(A++B)[k]? =some c:=by
 rw[List.getElem?_append_left (List.getElem?_eq_some_iff.1 hk).1];exact hk
theorem app_r {k:Nat} {c:Ck} (hk:B[k]? =some c):(A++B)[A.length+k]? =some c:=by
 rw[List.getElem?_append_right (by omega)];simpa using hk
theorem app_or {k:Nat} {c:Ck} (hk:(A++B)[k]? =some c):A[k]? =some c\/(A.length<=k/\B[k-A.length]? =some c):=by
 by_cases hl:k<A.length
 ·rw [List.getElem?_append_left hl]at hk;exact .inl hk
 ·rw [List.getElem?_append_right (by omega)]at hk;exact .inr ⟨by omega,hk⟩
theorem Sq.frA (q:Sq h0 C h (A++B)) (f:Fr (owns A) h h'):Fr (owns C) h0 h':=
 q.fr.comp f fun b hb=>by
  obtain⟨k,c,h1,h2⟩:=memOwns.1 hb
  exact q.sy.ow k c (app_l h1) b h2
theorem Sq.frT (q:Sq h0 C h cs) (f:Fr (owns cs) h h'):Fr (owns C) h0 h':=Sq.frA (B:=[]) (by simpa using q) f
theorem Sq.call (q:Sq h0 C h (A++B)) (p:Sq h A h' cs'):Sq h0 C h' (cs'++B):=by
 have Y:=q.sy
 have P:=p.sy
 have okB:∀(k:Nat) (c:Ck),B[k]? =some c->c.ok h':=by
  intro k c hk
  have hk':=app_r (A:=A) hk
  have hok:=Y.hp.ok _ c hk'
  obtain⟨l1,l2⟩:=c.lt h hok
  refine c.fr h h' (fun b hb=>P.fr.blk b (l1 b hb) fun w=>?_) (fun b hb=>P.fr.blk b (l2 b hb) fun w=>?_) hok
  ·obtain ⟨i,d,h1,h3⟩:=memOwns.1 w
   have:=(List.getElem?_eq_some_iff.1 h1).1
   exact(Y.hp.ap i (A.length+k) d c (by omega) (app_l h1) hk' b h3).1 hb
  ·obtain ⟨i,d,h1,h3⟩:=memOwns.1 w
   have:=(List.getElem?_eq_some_iff.1 h1).1
   exact(Y.hp.ap i (A.length+k) d c (by omega) (app_l h1) hk' b h3).2 hb
 refine⟨⟨q.frA P.fr,⟨fun k c hk=>?_,fun i j c d hij hi hj=>?_⟩,fun k c hk b hb=>?_⟩,fun b hb=>?_⟩
 ·rcases app_or hk with hk | ⟨_,hk⟩
  ·exact P.hp.ok k c hk
  ·exact okB _ c hk
 ·rcases app_or hi with hi | ⟨hl,hi⟩
  ·rcases app_or hj with hj | ⟨hl2,hj⟩
   ·exact P.hp.ap i j c d hij hi hj
   ·intro b hb
    have hj':=app_r (A:=A) hj
    obtain⟨l1,l2⟩:=d.lt h (Y.hp.ok _ d hj')
    rcases P.ow i c hi b hb with w | w
    ·obtain ⟨x,e,h1,h3⟩:=memOwns.1 w
     have:=(List.getElem?_eq_some_iff.1 h1).1
     exact Y.hp.ap x _ e d (by omega) (app_l h1) hj' b h3
    ·exact ⟨fun x=>by have:=l1 b x;omega,fun x=>by have:=l2 b x;omega⟩
  ·rcases app_or hj with hj | ⟨hl2,hj⟩
   ·intro b hb
    have hi':=app_r (A:=A) hi
    obtain⟨l1,l2⟩:=c.lt h (Y.hp.ok _ c hi')
    have hbl:=l1 b hb
    refine⟨fun x=>?_,fun x=>?_⟩
    ·rcases P.ow j d hj b x with w | w
     ·obtain ⟨x,e,h1,h3⟩:=memOwns.1 w
      have:=(List.getElem?_eq_some_iff.1 h1).1
      exact(Y.hp.ap x _ e c (by omega) (app_l h1) hi' b h3).1 hb
     ·omega
    ·rcases p.ri b (mem_rds.2 ⟨j,d,hj,x⟩)with w | w | w
     ·obtain ⟨x,e,h1,h3⟩:=mem_rds.1 w
      have:=(List.getElem?_eq_some_iff.1 h1).1
      exact(Y.hp.ap _ x c e (by omega) hi' (app_l h1) b hb).2 h3
     ·obtain ⟨x,e,h1,h3⟩:=memOwns.1 w
      have:=(List.getElem?_eq_some_iff.1 h1).1
      exact(Y.hp.ap x _ e c (by omega) (app_l h1) hi' b h3).1 hb
     ·omega
   ·exact Y.hp.ap _ _ c d (by omega) (app_r hi) (app_r hj)
 ·rcases app_or hk with hk | ⟨_,hk⟩
  ·rcases P.ow k c hk b hb with w | w
   ·obtain ⟨i,d,h1,h3⟩:=memOwns.1 w
    exact Y.ow i d (app_l h1) b h3
   ·have:=Y.le;exact .inr (by omega)
  ·exact Y.ow _ c (app_r hk) b hb
 ·obtain ⟨k,c,hk,hb⟩:=mem_rds.1 hb
  rcases app_or hk with hk | ⟨_,hk⟩
  ·rcases p.ri b (mem_rds.2 ⟨k,c,hk,hb⟩)with w | w | w
   ·obtain ⟨x,e,h1,h3⟩:=mem_rds.1 w
    exact q.ri b (mem_rds.2 ⟨x,e,app_l h1,h3⟩)
   ·obtain ⟨x,e,h1,h3⟩:=memOwns.1 w
    have:=Y.ow x e (app_l h1) b h3
    exact this.elim (fun w=>.inr (.inl w)) fun w=>.inr (.inr w)
   ·have:=Y.le;exact .inr (.inr (by omega))
  ·exact q.ri b (mem_rds.2 ⟨_,c,app_r hk,hb⟩)
theorem Sq.callT (q:Sq h0 C h cs) (p:Sq h cs h' cs'):Sq h0 C h' cs':=by
 have:=Sq.call (A:=cs) (B:=[]) (by simpa using q) p
 simpa using this
theorem Sq.pick (q:Sq h0 C h cs) (l:List Nat) (hc:chkI cs.length l=true):Sq h0 C h (pk cs l):=
 ⟨q.sy.pick l hc,fun b hb=>by
  obtain⟨k,c,h1,h2⟩:=mem_rds.1 hb
  obtain⟨i,_,h3⟩:=pk_get hc h1
  exact q.ri b (mem_rds.2 ⟨i,c,h3,h2⟩)⟩
theorem Sq.gr (q:Sq h0 C h cs) (f:Fr [] h h'):Sq h0 C h' cs:=⟨q.sy.gr f,q.ri⟩
end
def ek (ks:List (List UInt8)):List (Value × Value):=ks.map fun k=>(.string (Go.Proofs.YtlflalecmhgmjaaGreatDoor.G.mkB k),.int .i64 1)
abbrev Fs :=List (Nat × Nat × Value)
def Ck.fx (mo:Option (Nat × List (List UInt8))) (fs:Fs):Ck:=
 ⟨(mo.map (·.1)).toList,fs.map (·.1),fun h=>(∀p,mo=some p->hmap h p.1=some (Ent (ek p.2),(ek p.2).length))/\∀f∈fs,hcell h f.1 f.2.1=some f.2.2,
  fun h o=>⟨by
   intro b hb
   cases mo with
   | none=>simp at hb
   | some p=>
    simp only[Option.map_some,Option.toList_some,List.mem_singleton]at hb
    subst hb
    exact(Array.getElem?_eq_some_iff.1 (hmap_some (o.1 p rfl))).1,fun b hb=>by
   obtain⟨f,h1,rfl⟩:=List.mem_map.1 hb
   exact hcell_lt (o.2 f h1)⟩,fun h h' he hr o=>⟨fun p hp=>by
   subst hp
   exact hmap_of ((he p.1 (by simp)).trans (hmap_some (o.1 p rfl))),fun f hf=>(hcell_congr (hr f.1 (List.mem_map.2 ⟨f,hf,rfl⟩)) _).trans (o.2 f hf)⟩⟩
section
variable {h0 h h':Heap} {M:List Nat} {cs:List Ck} {mo:Option (Nat × List (List UInt8))} {fs:Fs} {gl:GL}
theorem Sy.factF (Y:Sy h0 M h cs) (k:Nat) (hk:cs[k]? =some (Ck.fx mo fs)) (j:Nat) {b o:Nat} {v:Value} (hj:fs[j]? =some (b,o,v)):hcell h b o=some v:=(Y.ok hk).2 (b,o,v) (List.mem_of_getElem? hj)
theorem Sy.mapF {m:Nat} {ks:List (List UInt8)} (Y:Sy h0 M h cs) (k:Nat) (hk:cs[k]? =some (Ck.fx (some (m,ks)) fs)):hmap h m=some (Ent (ek ks),(ek ks).length):=(Y.ok hk).1 (m,ks) rfl
theorem map_ne_cell {m b o:Nat} {v:Value} {x:Array MapEntry × Nat} (h1:hmap h m=some x) (h2:hcell h b o=some v):m≠b:=by
 rintro rfl
 obtain⟨es,c⟩:=x
 obtain⟨c,e,f,h3,_⟩:=hcell_blk h2
 rw[hmap_some h1]at h3
 cases h3
theorem Sy.seeF {m:Nat} {ks ks':List (List UInt8)} (Y:Sy h0 M h cs) (k:Nat) (hk:cs[k]? =some (Ck.fx (some (m,ks)) fs)) (f:Fr [m] h h') (hm:hmap h' m=some (Ent (ek ks'),(ek ks').length)):Sy h0 M h' (cs.set k (Ck.fx (some (m,ks')) fs)):=by
 refine Y.mut hk _ f.size (fun d hd hn=>f.blk d hd (by simpa[Ck.fx]using hn)) ⟨fun p hp=>?_,fun x hx=>?_⟩ (fun d hd=>.inl hd) (fun d hd=>.inr (.inl hd))
 ·cases hp;exact hm
 ·have h1:=(Y.ok hk).2 x hx
  have h2:=map_ne_cell (Y.mapF k hk) h1
  rw[hcell_congr (f.blk x.1 (hcell_lt h1) (by simpa using fun e=>h2 e.symm))]
  exact h1
theorem Sy.cutF (Y:Sy h0 M h cs) (l:List Nat) (hc:chkI cs.length l=true) (mo:Option (Nat × List (List UInt8))) (fs:Fs)
  (hm:∀p,mo=some p->∃k,cs[k]? =some (Ck.mp p.1 (ek p.2))/\k∉l) (hf:∀f∈fs,hcell h f.1 f.2.1=some f.2.2/\∃(k:Nat) (c:Ck),cs[k]? =some c/\((f.1∈c.own/\k∉l)\/(f.1∈c.rd/\∃mo fs,c=Ck.fx mo fs))):
  Sy h0 M h (pk cs l++[Ck.fx mo fs]):=by
 have okx:(Ck.fx mo fs).ok h:=⟨fun p hp=>by
  obtain⟨k,h1,_⟩:=hm p hp
  exact Y.mapM k h1,fun f hf'=>(hf f hf').1⟩
 have Z:=Y.pick l hc
 have ap:∀(i:Nat) (d:Ck),(pk cs l)[i]? =some d->Ap d (Ck.fx mo fs)/\Ap (Ck.fx mo fs) d:=by
  intro i d hi
  obtain⟨p,h1,h2⟩:=pk_get hc hi
  have hpl:p∈l:=List.mem_of_getElem? h1
  have ow:∀b∈(Ck.fx mo fs).own,b∉d.own/\b∉d.rd:=by
   intro b hb
   cases mo with
   | none=>simp[Ck.fx]at hb
   | some q=>
    simp only[Ck.fx,Option.map_some,Option.toList_some,List.mem_singleton]at hb
    subst hb
    obtain⟨k,h3,h4⟩:=hm q rfl
    exact Y.hp.ap k p _ d (fun e=>h4 (e▸hpl)) h3 h2 q.1 (by simp[Ck.mp])
  refine⟨fun b hb=>⟨fun x=>(ow b x).1 hb,fun x=>?_⟩,ow⟩
  obtain⟨f,h3,rfl⟩:=List.mem_map.1 (show b∈fs.map (·.1)from x)
  obtain⟨hcl,k,c,h4,h5⟩:=hf f h3
  rcases h5 with⟨h5,h6⟩ | ⟨h5,mo',fs',rfl⟩
  ·exact (Y.hp.ap k p c d (fun e=>h6 (e▸hpl)) h4 h2 f.1 h5).1 hb
  ·by_cases e:p=k
   ·subst e
    rw[h4]at h2
    cases h2
    cases mo' with
    | none=>simp[Ck.fx]at hb
    | some q=>
     simp only[Ck.fx,Option.map_some,Option.toList_some,List.mem_singleton]at hb
     exact map_ne_cell ((Y.ok h4).1 q rfl) hcl hb.symm
   ·exact (Y.hp.ap p k d _ e h2 h4 f.1 hb).2 h5
 refine⟨Z.fr,⟨fun k c hk=>?_,fun i j c d hij hi hj=>?_⟩,fun k c hk b hb=>?_⟩
 ·rcases app_or hk with hk | ⟨_,hk⟩
  ·exact Z.hp.ok k c hk
  ·obtain ⟨e,rfl⟩:=List.getElem?_eq_some_iff.1 hk
   simpa using okx
 ·have lst:∀{n:Nat} {c:Ck},([Ck.fx mo fs]:List Ck)[n]? =some c->n=0/\c=Ck.fx mo fs:=by
   intro n c hn
   cases n with
   | zero=>simp at hn;exact⟨rfl,hn.symm⟩
   | succ n=>simp at hn
  rcases app_or hi with hi | ⟨hl,hi⟩
  ·rcases app_or hj with hj | ⟨hl2,hj⟩
   ·exact Z.hp.ap i j c d hij hi hj
   ·obtain ⟨_,rfl⟩:=lst hj
    exact(ap i c hi).1
  ·obtain ⟨e1,rfl⟩:=lst hi
   rcases app_or hj with hj | ⟨hl2,hj⟩
   ·exact (ap j d hj).2
   ·obtain ⟨e2,rfl⟩:=lst hj
    omega
 ·rcases app_or hk with hk | ⟨_,hk⟩
  ·exact Z.ow k c hk b hb
  ·obtain ⟨e,rfl⟩:=List.getElem?_eq_some_iff.1 hk
   simp only[List.length_singleton]at e
   have e0:k-(pk cs l).length=0:=by omega
   simp only[e0,List.getElem_cons_zero]at hb
   cases mo with
   | none=>simp[Ck.fx]at hb
   | some q=>
    simp only[Ck.fx,Option.map_some,Option.toList_some,List.mem_singleton]at hb
    subst hb
    obtain⟨k,h3,h4⟩:=hm q rfl
    exact Y.ow k _ h3 q.1 (by simp[Ck.mp])
end
end Go.X
namespace Go.Proofs.YtlflalecmhgmjaaGreatDoor.N
open Go.Proofs.YtlflalecmhgmjaaGreatDoor
open Go.X
set_option maxRecDepth 100000
set_option maxHeartbeats 2000000
def S43 (bP:Option Addr) (h:Heap) (R:Value->Heap->Prop):Prop:=
 ∃b o,bP=some ⟨b,o,none⟩/\∃(c:Option Addr) (a d:Nat),hcell h b (o+1)=some (.slice c a d)/\R (.int .i64 ((a:Nat):Int)) h
theorem calls43 {h:Heap} {R:Value->Heap->Prop} (bP:Option Addr) (H:S43 bP h R):CallsH Tryz.prog 43 #[.pointer bP] h R:=by
 have e:S43 bP h R=FX (envX [] 8) {loops:=[],joins:=[],blocks:=[],draws:=[]} Tryz.f43 (Tryz.f43.body.getD .skip) [.pointer bP] h R:=by kernel_rfl
 exact calls_of_FX (envX_ok _ _) Tryz.func43 (by kernel_rfl) (by kernel_rfl) (by kernel_rfl) (e▸H)
def S86 (bP:Option Addr) (s:ByteArray) (h:Heap) (R:Value->Heap->Prop):Prop:=
 callX Tryz.prog 128 #[.pointer bP] h [] fun k c=>
 k= .tuple #[]/\
 ∃b o,bP=some ⟨b,o,none⟩/\∃(d:Option Addr) (a e:Nat),hcell c b (o+1)=some (.slice d a e)/\∃g,Ownd c 5 1 d a e g/\(∀b∈([]:List Nat),b∉blkOf d)/\(a+s.size)*1<=140737488355328/\(a+s.size)<=maxLen/\
 ∀sA sC hv2,Ownd hv2 5 1 sA (a+s.size) sC (g++(Lib.strCells s))->Fr (blkOf d) c hv2->((sA=d/\sC=e)\/∃f,sA=some ⟨f,0,none⟩/\c.size<=f)->(e<(a+s.size)->Fr [] c hv2)->
 ∃b2 o2,bP=some ⟨b2,o2,none⟩/\(∃j,hcell hv2 b2 (o2+1)=some j)/\hfree hv2 b2 (o2+1)=true/\let i:Heap:=hset hv2 b2 (o2+1) (.slice sA (a+s.size) sC)
 R (.tuple #[.int .i64 ((s.size:Nat):Int),.nilIface]) i
theorem calls86 {h:Heap} {R:Value->Heap->Prop} (bP:Option Addr) (s:ByteArray) (H:S86 bP s h R):CallsH Tryz.prog 86 #[.pointer bP,.string s] h R:=by
 have e:S86 bP s h R=FX (envX [] 19) {loops:=[],joins:=[],blocks:=[],draws:=[]} Tryz.f86 (Tryz.f86.body.getD .skip) [.pointer bP,.string s] h R:=by kernel_rfl
 exact calls_of_FX (envX_ok _ _) Tryz.func86 (by kernel_rfl) (by kernel_rfl) (by kernel_rfl) (e▸H)
def S88 (bP:Option Addr) (c:Int) (h:Heap) (R:Value->Heap->Prop):Prop:=
 callX Tryz.prog 128 #[.pointer bP] h [] fun m e=>
 m= .tuple #[]/\
 ∃b o,bP=some ⟨b,o,none⟩/\∃(d:Option Addr) (a g:Nat),hcell e b (o+1)=some (.slice d a g)/\let f:Heap:=e.push (.cells #[.int .u8 c] 5)
 ∃j,Ownd f 5 1 d a g j/\(∀b∈([e.size]:List Nat),b∉blkOf d)/\(a+1)*1<=140737488355328/\(a+1)<=maxLen/\
 ∀sA sC hv3,Ownd hv3 5 1 sA (a+1) sC (j++[.int .u8 c])->Fr (blkOf d) f hv3->((sA=d/\sC=g)\/∃i,sA=some ⟨i,0,none⟩/\f.size<=i)->(g<(a+1)->Fr [] f hv3)->
 ∃b2 o2,bP=some ⟨b2,o2,none⟩/\b2≠e.size/\(∃l,hcell hv3 b2 (o2+1)=some l)/\hfree hv3 b2 (o2+1)=true/\let k:Heap:=hset hv3 b2 (o2+1) (.slice sA (a+1) sC)
 R (.nilIface) k
theorem calls88 {h:Heap} {R:Value->Heap->Prop} (bP:Option Addr) (c:Int) (H:S88 bP c h R):CallsH Tryz.prog 88 #[.pointer bP,.int .u8 c] h R:=by
 have e:S88 bP c h R=FX (envX [13] 17) {loops:=[],joins:=[],blocks:=[],draws:=[]} Tryz.f88 (Tryz.f88.body.getD .skip) [.pointer bP,.int .u8 c] h R:=by kernel_rfl
 exact calls_of_FX (envX_ok _ _) Tryz.func88 (by kernel_rfl) (by kernel_rfl) (by kernel_rfl) (e▸H)
def S104 (s:ByteArray) (h:Heap) (R:Value->Heap->Prop):Prop:=
 callX Tryz.prog 144 #[.string s,.string (⟨#[38]⟩:ByteArray),.string (⟨#[38,97,109,112,59]⟩:ByteArray)] h [] fun e c=>
 ∃b:ByteArray,e= .string b/\
 callX Tryz.prog 144 #[.string b,.string (⟨#[34]⟩:ByteArray),.string (⟨#[38,113,117,111,116,59]⟩:ByteArray)] c [] fun f d=>
 ∃a:ByteArray,f= .string a/\
 ((((⟨#[34]⟩:ByteArray).size+a.size:Nat)):Int)<=9223372036854775807/\(((((⟨#[34]⟩:ByteArray)++a).size+(⟨#[34]⟩:ByteArray).size:Nat)):Int)<=9223372036854775807/\R (.string (((⟨#[34]⟩:ByteArray)++a)++(⟨#[34]⟩:ByteArray))) d
theorem calls104 {h:Heap} {R:Value->Heap->Prop} (s:ByteArray) (H:S104 s h R):CallsH Tryz.prog 104 #[.string s] h R:=by
 have e:S104 s h R=FX (envX [] 8) {loops:=[],joins:=[],blocks:=[],draws:=[]} Tryz.f104 (Tryz.f104.body.getD .skip) [.string s] h R:=by kernel_rfl
 exact calls_of_FX (envX_ok _ _) Tryz.func104 (by kernel_rfl) (by kernel_rfl) (by kernel_rfl) (e▸H)
def S52 (wP:Option Addr) (wordsA:Option Addr) (wordsL wordsC:Nat) (h:Heap) (R:Value->Heap->Prop):Prop:=
 let a:=fun(f:Heap)=>
  (let c:=fun(t:Heap)=>
   (∃b4 o4,wP=some ⟨b4,o4,none⟩/\callX Tryz.prog 88 #[.pointer (some (⟨b4,o4,none⟩:Addr)),.int .u8 10] t [] fun r j=>
   ((r= .nilIface/\
    R (.tuple #[]) j)
   \/∃(v:Nat) (u:Value),r= .iface v u/\
    R (.tuple #[]) j))
  ∃b3 o3,wP=some ⟨b3,o3,none⟩/\callX Tryz.prog 103 #[.slice wordsA wordsL wordsC,.string (⟨#[32]⟩:ByteArray)] f [] fun B g=>
  ∃l:ByteArray,B= .string l/\
  Fr [] f g/\
  callX Tryz.prog 86 #[.pointer (some (⟨b3,o3,none⟩:Addr)),.string l] g [] fun q i=>
  ∃n:Int,((q= .tuple #[.int .i64 n,.nilIface]/\
   c i)
  \/∃(z:Nat) (x:Value),q= .tuple #[.int .i64 n,.iface z x]/\
   c i))
 ∃b o,wP=some ⟨b,o,none⟩/\∃b2 o2,wP=some ⟨b2,o2,none⟩/\∃s:Int,hcell h b2 (o2+2)=some (.int .i64 s)/\callX Tryz.prog 87 #[.string (⟨#[32,32]⟩:ByteArray),.int .i64 s] h [] fun A d=>
 ∃k:ByteArray,A= .string k/\
 Fr [] h d/\
 callX Tryz.prog 86 #[.pointer (some (⟨b,o,none⟩:Addr)),.string k] d [] fun p e=>
 ∃m:Int,((p= .tuple #[.int .i64 m,.nilIface]/\
  a e)
 \/∃(y:Nat) (w:Value),p= .tuple #[.int .i64 m,.iface y w]/\
  a e)
theorem calls52 {h:Heap} {R:Value->Heap->Prop} (wP:Option Addr) (wordsA:Option Addr) (wordsL wordsC:Nat) (H:S52 wP wordsA wordsL wordsC h R):CallsH Tryz.prog 52 #[.pointer wP,.slice wordsA wordsL wordsC] h R:=by
 have e:S52 wP wordsA wordsL wordsC h R=FX (envX [] 23) {loops:=[],joins:=[],blocks:=[],draws:=[(0,⟨8,false⟩),(1,⟨5,false⟩)]} Tryz.f52 (Tryz.f52.body.getD .skip) [.pointer wP,.slice wordsA wordsL wordsC] h R:=by kernel_rfl
 exact calls_of_FX (envX_ok _ _) Tryz.func52 (by kernel_rfl) (by kernel_rfl) (by kernel_rfl) (e▸H)
def S51 (wP:Option Addr) (key:ByteArray) (h:Heap) (R:Value->Heap->Prop):Prop:=
 let d:Heap:=h.push (.cells #[.string key,.string (⟨#[91]⟩:ByteArray)] 9)
 callX Tryz.prog 52 #[.pointer wP,.slice (some (⟨h.size,0,none⟩:Addr)) 2 2] d [] fun g a=>
 g= .tuple #[]/\
 ∃b o,wP=some ⟨b,o,none⟩/\∃c:Int,hcell a b (o+2)=some (.int .i64 c)/\∃b2 o2,wP=some ⟨b2,o2,none⟩/\(∃f,hcell a b2 (o2+2)=some f)/\hfree a b2 (o2+2)=true/\let e:Heap:=hset a b2 (o2+2) (.int .i64 (IntKind.i64.wrap (c+(1:Int))))
 R (.tuple #[]) e
theorem calls51 {h:Heap} {R:Value->Heap->Prop} (wP:Option Addr) (key:ByteArray) (H:S51 wP key h R):CallsH Tryz.prog 51 #[.pointer wP,.string key] h R:=by
 have e:S51 wP key h R=FX (envX [] 15) {loops:=[],joins:=[],blocks:=[],draws:=[]} Tryz.f51 (Tryz.f51.body.getD .skip) [.pointer wP,.string key] h R:=by kernel_rfl
 exact calls_of_FX (envX_ok _ _) Tryz.func51 (by kernel_rfl) (by kernel_rfl) (by kernel_rfl) (e▸H)
def S56 (wP:Option Addr) (h:Heap) (R:Value->Heap->Prop):Prop:=
 ∃b o,wP=some ⟨b,o,none⟩/\∃c:Int,hcell h b (o+2)=some (.int .i64 c)/\∃b2 o2,wP=some ⟨b2,o2,none⟩/\(∃f,hcell h b2 (o2+2)=some f)/\hfree h b2 (o2+2)=true/\let a:Heap:=hset h b2 (o2+2) (.int .i64 (IntKind.i64.wrap (c-(1:Int))))
 let d:Heap:=a.push (.cells #[.string (⟨#[93]⟩:ByteArray)] 9)
 callX Tryz.prog 52 #[.pointer wP,.slice (some (⟨a.size,0,none⟩:Addr)) 1 1] d [] fun g e=>
 g= .tuple #[]/\
 R (.tuple #[]) e
theorem calls56 {h:Heap} {R:Value->Heap->Prop} (wP:Option Addr) (H:S56 wP h R):CallsH Tryz.prog 56 #[.pointer wP] h R:=by
 have e:S56 wP h R=FX (envX [] 12) {loops:=[],joins:=[],blocks:=[],draws:=[]} Tryz.f56 (Tryz.f56.body.getD .skip) [.pointer wP] h R:=by kernel_rfl
 exact calls_of_FX (envX_ok _ _) Tryz.func56 (by kernel_rfl) (by kernel_rfl) (by kernel_rfl) (e▸H)
def S53 (wP:Option Addr) (d:Int) (dA:Option Addr) (dL dC:Nat) (d2:Bool) (dA2:Option Addr) (dL2 dC2:Nat) (dA3:Option Addr) (dL3 dC3:Nat) (dA4:Option Addr) (dL4 dC4:Nat) (v:Int) (h:Heap) (R:Value->Heap->Prop):Prop:=
 let x:Heap:=h.push (.cells #[.int .i64 d,.slice dA dL dC,.bool d2,.slice dA2 dL2 dC2,.slice dA3 dL3 dC3,.slice dA4 dL4 dC4] 29)
 callX Tryz.prog 51 #[.pointer wP,.string (⟨#[110,111,100,101]⟩:ByteArray)] x [h.size] fun L D=>
 L= .tuple #[]/\
 callX Tryz.prog 54 #[.int .i64 v] D [h.size] fun M m=>
 ∃p:ByteArray,M= .string p/\
 let E:Heap:=m.push (.cells #[.string (⟨#[105,100]⟩:ByteArray),.string p] 9)
 callX Tryz.prog 52 #[.pointer wP,.slice (some (⟨m.size,0,none⟩:Addr)) 2 2] E [h.size] fun N e=>
 N= .tuple #[]/\
 ∃a:List Value->Heap->Prop,
 (cnd (decide (((dL2:Nat):Int)>(0:Int)))
   (∃b o,dA2=some ⟨b,o,none⟩/\0<=v/\v<(dL2:Nat)/\∃t:ByteArray,hcell e b (o+(Int.toNat v)*1)=some (.string t)/\callX Tryz.prog 104 #[.string t] e [h.size] fun O n=>
   ∃q:ByteArray,O= .string q/\
   let F:Heap:=n.push (.cells #[.string (⟨#[108,97,98,101,108]⟩:ByteArray),.string q] 9)
   callX Tryz.prog 52 #[.pointer wP,.slice (some (⟨n.size,0,none⟩:Addr)) 2 2] F [h.size] fun P G=>
   P= .tuple #[]/\
   a [] G)
   (a [] e))/\
 ∀f,a [] f->
 ∃c:List Value->Heap->Prop,
 (cnd (decide (((dL3:Nat):Int)>(0:Int)))
   (callX Tryz.prog 51 #[.pointer wP,.string (⟨#[103,114,97,112,104,105,99,115]⟩:ByteArray)] f [h.size] fun Q g=>
   Q= .tuple #[]/\
   ∃b2 o2,dA3=some ⟨b2,o2,none⟩/\0<=v/\v<(dL3:Nat)/\∃u:Nat,hcell g b2 (o2+(Int.toNat v)*2)=some (.float .f64 u)/\callX Tryz.prog 55 #[.float .f64 u] g [h.size] fun S i=>
   ∃r:ByteArray,S= .string r/\
   let y:Heap:=i.push (.cells #[.string (⟨#[120]⟩:ByteArray),.string r] 9)
   callX Tryz.prog 52 #[.pointer wP,.slice (some (⟨i.size,0,none⟩:Addr)) 2 2] y [h.size] fun T j=>
   T= .tuple #[]/\
   ∃b3 o3,dA3=some ⟨b3,o3,none⟩/\0<=v/\v<(dL3:Nat)/\∃w:Nat,hcell j b3 ((o3+(Int.toNat v)*2)+1)=some (.float .f64 w)/\callX Tryz.prog 55 #[.float .f64 w] j [h.size] fun H k=>
   ∃s:ByteArray,H= .string s/\
   let z:Heap:=k.push (.cells #[.string (⟨#[121]⟩:ByteArray),.string s] 9)
   callX Tryz.prog 52 #[.pointer wP,.slice (some (⟨k.size,0,none⟩:Addr)) 2 2] z [h.size] fun I A=>
   I= .tuple #[]/\
   callX Tryz.prog 56 #[.pointer wP] A [h.size] fun J B=>
   J= .tuple #[]/\
   c [] B)
   (c [] f))/\
 ∀l,c [] l->
 callX Tryz.prog 56 #[.pointer wP] l [] fun K C=>
 K= .tuple #[]/\
 R (.tuple #[]) C
theorem calls53 {h:Heap} {R:Value->Heap->Prop} (wP:Option Addr) (d:Int) (dA:Option Addr) (dL dC:Nat) (d2:Bool) (dA2:Option Addr) (dL2 dC2:Nat) (dA3:Option Addr) (dL3 dC3:Nat) (dA4:Option Addr) (dL4 dC4:Nat) (v:Int) (H:S53 wP d dA dL dC d2 dA2 dL2 dC2 dA3 dL3 dC3 dA4 dL4 dC4 v h R):CallsH Tryz.prog 53 #[.pointer wP,.agg #[.int .i64 d,.slice dA dL dC,.bool d2,.slice dA2 dL2 dC2,.slice dA3 dL3 dC3,.slice dA4 dL4 dC4],.int .i64 v] h R:=by
 have e:S53 wP d dA dL dC d2 dA2 dL2 dC2 dA3 dL3 dC3 dA4 dL4 dC4 v h R=FX (envX [4] 56) {loops:=[],joins:=[(16,⟨[0,2,4],[],[4],[]⟩),(29,⟨[0],[],[],[]⟩)],blocks:=[],draws:=[]} Tryz.f53 (Tryz.f53.body.getD .skip) [.pointer wP,.agg #[.int .i64 d,.slice dA dL dC,.bool d2,.slice dA2 dL2 dC2,.slice dA3 dL3 dC3,.slice dA4 dL4 dC4],.int .i64 v] h R:=by kernel_rfl
 exact calls_of_FX (envX_ok _ _) Tryz.func53 (by kernel_rfl) (by kernel_rfl) (by kernel_rfl) (e▸H)
def S22 (d:Int) (dA:Option Addr) (dL dC:Nat) (d2:Bool) (dA2:Option Addr) (dL2 dC2:Nat) (dA3:Option Addr) (dL3 dC3:Nat) (dA4:Option Addr) (dL4 dC4:Nat) (h:Heap) (R:Value->Heap->Prop):Prop:=
 let J:Heap:=h.push (.cells #[.int .i64 d,.slice dA dL dC,.bool d2,.slice dA2 dL2 dC2,.slice dA3 dL3 dC3,.slice dA4 dL4 dC4] 29)
 callX Tryz.prog 25 #[.agg #[.int .i64 d,.slice dA dL dC,.bool d2,.slice dA2 dL2 dC2,.slice dA3 dL3 dC3,.slice dA4 dL4 dC4]] J [h.size] fun Y c=>
 ∃C:Bool,Y= .bool C/\
 cnd (!C)
  (R (.tuple #[.string (⟨#[]⟩:ByteArray),.int .i64 1]) c)
  (let V:Heap:=c.push (.cells #[.pointer none,.slice none 0 0,.int .i64 0] 83)
  callX Tryz.prog 51 #[.pointer (some (⟨c.size,0,none⟩:Addr)),.string (⟨#[103,114,97,112,104]⟩:ByteArray)] V [h.size] fun a5 y=>
  a5= .tuple #[]/\
  ∃k:List Value->Heap->Prop,
  (cnd d2
    (k [.string (⟨#[49]⟩:ByteArray)] y)
    (k [.string (⟨#[48]⟩:ByteArray)] y))/\
  ∀r:ByteArray,∀n,k [.string r] n->
  let W:Heap:=n.push (.cells #[.string (⟨#[100,105,114,101,99,116,101,100]⟩:ByteArray),.string r] 9)
  callX Tryz.prog 52 #[.pointer (some (⟨c.size,0,none⟩:Addr)),.slice (some (⟨n.size,0,none⟩:Addr)) 2 2] W [h.size] fun a6 X=>
  a6= .tuple #[]/\
  ∃(i:List Value->Heap->Prop) (A:List Value->Heap->Nat),i [.int .i64 0] X/\
  ∀f:Int,∀g,i [.int .i64 f] g->
  cnd (decide (f<d))
   (callX Tryz.prog 53 #[.pointer (some (⟨c.size,0,none⟩:Addr)),.agg #[.int .i64 d,.slice dA dL dC,.bool d2,.slice dA2 dL2 dC2,.slice dA3 dL3 dC3,.slice dA4 dL4 dC4],.int .i64 f] g [h.size] fun a7 z=>
   a7= .tuple #[]/\
   i [.int .i64 (IntKind.i64.wrap (f+(1:Int)))] z/\A [.int .i64 (IntKind.i64.wrap (f+(1:Int)))] z<A [.int .i64 f] g)
   (∃(j:List Value->Heap->Prop) (B:List Value->Heap->Nat),j [.int .i64 0] g/\
   ∀e:Int,∀a,j [.int .i64 e] a->
   cnd (decide (e<((dL:Nat):Int)))
    (∃b o,dA=some ⟨b,o,none⟩/\0<=e/\e<(dL:Nat)/\∃p:Int,hcell a b (o+(Int.toNat e)*2)=some (.int .i64 p)/\∃q:Int,hcell a b ((o+(Int.toNat e)*2)+1)=some (.int .i64 q)/\let K:Heap:=a.push (.cells #[.int .i64 0,.int .i64 0] 48)
    let L:Heap:=hset (hset K a.size 0 (.int .i64 p)) a.size (0+1) (.int .i64 q)
    callX Tryz.prog 51 #[.pointer (some (⟨c.size,0,none⟩:Addr)),.string (⟨#[101,100,103,101]⟩:ByteArray)] L [a.size,h.size] fun a8 M=>
    a8= .tuple #[]/\
    callX Tryz.prog 54 #[.int .i64 p] M [a.size,h.size] fun a9 s=>
    ∃D:ByteArray,a9= .string D/\
    let N:Heap:=s.push (.cells #[.string (⟨#[115,111,117,114,99,101]⟩:ByteArray),.string D] 9)
    callX Tryz.prog 52 #[.pointer (some (⟨c.size,0,none⟩:Addr)),.slice (some (⟨s.size,0,none⟩:Addr)) 2 2] N [a.size,h.size] fun b0 O=>
    b0= .tuple #[]/\
    callX Tryz.prog 54 #[.int .i64 q] O [a.size,h.size] fun b1 t=>
    ∃E:ByteArray,b1= .string E/\
    let P:Heap:=t.push (.cells #[.string (⟨#[116,97,114,103,101,116]⟩:ByteArray),.string E] 9)
    callX Tryz.prog 52 #[.pointer (some (⟨c.size,0,none⟩:Addr)),.slice (some (⟨t.size,0,none⟩:Addr)) 2 2] P [a.size,h.size] fun b3 m=>
    b3= .tuple #[]/\
    ∃l:List Value->Heap->Prop,
    (cnd (decide (((dL4:Nat):Int)>(0:Int)))
      (∃b2 o2,dA4=some ⟨b2,o2,none⟩/\0<=e/\e<(dL4:Nat)/\∃I:Nat,hcell m b2 (o2+(Int.toNat e)*1)=some (.float .f64 I)/\callX Tryz.prog 55 #[.float .f64 I] m [a.size,h.size] fun Z u=>
      ∃F:ByteArray,Z= .string F/\
      let Q:Heap:=u.push (.cells #[.string (⟨#[119,101,105,103,104,116]⟩:ByteArray),.string F] 9)
      callX Tryz.prog 52 #[.pointer (some (⟨c.size,0,none⟩:Addr)),.slice (some (⟨u.size,0,none⟩:Addr)) 2 2] Q [a.size,h.size] fun a0 S=>
      a0= .tuple #[]/\
      l [] S)
      (l [] m))/\
    ∀v,l [] v->
    callX Tryz.prog 56 #[.pointer (some (⟨c.size,0,none⟩:Addr))] v [h.size] fun a1 w=>
    a1= .tuple #[]/\
    j [.int .i64 (IntKind.i64.wrap (e+(1:Int)))] w/\B [.int .i64 (IntKind.i64.wrap (e+(1:Int)))] w<B [.int .i64 e] a)
    (callX Tryz.prog 56 #[.pointer (some (⟨c.size,0,none⟩:Addr))] a [h.size] fun a2 T=>
    a2= .tuple #[]/\
    callX Tryz.prog 43 #[.pointer (some (⟨c.size,0,none⟩:Addr))] T [h.size] fun a3 x=>
    ∃G:Int,a3= .int .i64 G/\
    cnd (decide (G>(262144:Int)))
     (R (.tuple #[.string (⟨#[]⟩:ByteArray),.int .i64 23]) x)
     (callX Tryz.prog 44 #[.pointer (some (⟨c.size,0,none⟩:Addr))] x [h.size] fun a4 U=>
     ∃H:ByteArray,a4= .string H/\
     R (.tuple #[.string H,.int .i64 0]) U))))
theorem calls22 {h:Heap} {R:Value->Heap->Prop} (d:Int) (dA:Option Addr) (dL dC:Nat) (d2:Bool) (dA2:Option Addr) (dL2 dC2:Nat) (dA3:Option Addr) (dL3 dC3:Nat) (dA4:Option Addr) (dL4 dC4:Nat) (H:S22 d dA dL dC d2 dA2 dL2 dC2 dA3 dL3 dC3 dA4 dL4 dC4 h R):CallsH Tryz.prog 22 #[.agg #[.int .i64 d,.slice dA dL dC,.bool d2,.slice dA2 dL2 dC2,.slice dA3 dL3 dC3,.slice dA4 dL4 dC4]] h R:=by
 have e:S22 d dA dL dC d2 dA2 dL2 dC2 dA3 dL3 dC3 dA4 dL4 dC4 h R=FX (envX [1,8] 83) {loops:=[(0,⟨[1,4,24],[25],[1],[]⟩),(2,⟨[1,4,35,36],[37],[1],[]⟩)],joins:=[(17,⟨[1,4],[5],[1],[]⟩),(59,⟨[1,4,35,36,37],[],[1],[]⟩)],blocks:=[],draws:=[]} Tryz.f22 (Tryz.f22.body.getD .skip) [.agg #[.int .i64 d,.slice dA dL dC,.bool d2,.slice dA2 dL2 dC2,.slice dA3 dL3 dC3,.slice dA4 dL4 dC4]] h R:=by kernel_rfl
 exact calls_of_FX (envX_ok _ _) Tryz.func22 (by kernel_rfl) (by kernel_rfl) (by kernel_rfl) (e▸H)
end Go.Proofs.YtlflalecmhgmjaaGreatDoor.N
namespace Go.Proofs.YtlflalecmhgmjaaGreatDoor.N
open Go.Proofs.YtlflalecmhgmjaaGreatDoor
open Go.X
open Go.Proofs
set_option maxRecDepth 100000
def bI (l:List UInt8):List Int:=l.map fun c=>((c.toNat:Nat):Int)
theorem bI_app (a b:List UInt8):bI (a++b)=bI a++bI b:=List.map_append
theorem bI_len (a:List UInt8):(bI a).length=a.length:=List.length_map _
def pU (u:Bool) (b:Nat):Value:=if u=true then .pointer (some ⟨b,0,none⟩)else .pointer none
def wC (b:Nat) (u:Bool) (A:Option Addr) (c d:Nat) (l:List UInt8):List Ck:=
 [Ck.ob b 83 [pU u b,.slice A l.length c,.int .i64 (d:Int)],Ck.sl (eK .u8) 5 A l.length c (bI l)]
set_option maxHeartbeats 1000000 in
theorem copy_used (b:Nat) (w:World) (h0:w.cell? ⟨b,0,none⟩=some (.pointer (some ⟨b,0,none⟩))):
  Calls Tryz.prog 128 #[.pointer (some ⟨b,0,none⟩)] w fun e w'=>e= .returned (.tuple #[])/\w'=w:=by
 obtain⟨j,hj,_⟩:=Option.map_eq_some_iff.1 (show(Tryz.prog.info? 56).map (·.size)=some 2 by kernel_rfl)
 have t70:Tryz.prog.underlying 54=some (.pointer 56):=by kernel_rfl
 go_enter Tryz.func128,Tryz.ntmps128
 go_wp2
 rw[Lib.run_neq_ptr_same w _ t70 hj]
 go_wp2
 go_end0
 exact⟨rfl,rfl⟩
set_option maxHeartbeats 1000000 in
theorem copy_fresh (b:Nat) (w:World) (h0:w.cell? ⟨b,0,none⟩=some (.pointer none)) (hsh:w.shape? b=some (83,3)) (hfz:w.frozen? ⟨b,0,none⟩=false):
  Calls Tryz.prog 128 #[.pointer (some ⟨b,0,none⟩)] w fun e w'=>e= .returned (.tuple #[])/\w'=w.setCell ⟨b,0,none⟩ (.pointer (some ⟨b,0,none⟩)):=by
 obtain⟨j,hj,hjs⟩:=Option.map_eq_some_iff.1 (show(Tryz.prog.info? 56).map (·.size)=some 2 by kernel_rfl)
 have t70:Tryz.prog.underlying 54=some (.pointer 56):=by kernel_rfl
 have t164:Tryz.prog.underlying 206=some .unsafePointer:=by kernel_rfl
 go_enter Tryz.func128,Tryz.ntmps128
 go_wp2
 rw[Lib.run_to_unsafe w ⟨b,0,none⟩ t70 t164 hj (by rw[hjs];decide) hsh (by show 0<3;decide)]
 simp only[Result.andThen]
 rw[Oper.upon_value]
 go_wp2
 rw[run_callFunc_extern Tryz.func172 (by kernel_rfl) (by kernel_rfl) (by kernel_rfl) (e:=Extern.AbiNoEscape.same) (by kernel_rfl)]
 rw[Lib.run_noEscape]
 simp only[Result.andThen]
 rw[Oper.upon_value]
 go_wp2
 rw[Lib.run_from_unsafe w ⟨b,0,none⟩ t164 t70 hj hsh (by kernel_rfl)]
 simp only[Result.andThen]
 rw[Oper.upon_value]
 go_wp2
 go_end0
 exact⟨rfl,rfl⟩
theorem freeze_eq {w:World} {g n:Nat}:(w.freeze ⟨g,0,none⟩ n).heap.size=w.heap.size/\(∀k,k≠g->(w.freeze ⟨g,0,none⟩ n).heap[k]? =w.heap[k]?)/\(w.freeze ⟨g,0,none⟩ n).os=w.os/\(w.freeze ⟨g,0,none⟩ n).output=w.output:=by
 unfold World.freeze
 split
 ·exact ⟨rfl,fun _ _=>rfl,rfl,rfl⟩
 ·refine ⟨Array.size_modify,fun k hk=>?_,rfl,rfl⟩
  show(w.heap.modify g _)[k]? =_
  rw[Array.getElem?_modify,if_neg (Ne.symm hk)]
theorem fr_freeze {w:World} {g n:Nat}:Fr [g] w.heap (w.drew.freeze ⟨g,0,none⟩ n).heap:=by
 obtain⟨h1,h2,_⟩:=freeze_eq (w:=w.drew) (g:=g) (n:=n)
 exact⟨Nat.le_of_eq h1.symm,fun k hk hkg=>h2 k (by simpa using hkg)⟩
theorem rest_freeze {w:World} {g n:Nat}:Go.X.Rest w (w.drew.freeze ⟨g,0,none⟩ n):=by
 obtain⟨h1,_,h3,h4⟩:=freeze_eq (w:=w.drew) (g:=g) (n:=n)
 have ht:(w.drew.freeze ⟨g,0,none⟩ n).tape=w.tape:=by unfold World.freeze;split<;>rfl
 exact⟨h3,ht,h4,Nat.le_of_eq h1.symm⟩
set_option maxHeartbeats 2000000 in
theorem str44 {b g cap:Nat} {p dv:Value} {l:List UInt8} {cur:Array Value} (w:World) (h0:l≠[]) (hb:w.heap[b]? =some (.cells #[p,.slice (some ⟨g,0,none⟩) l.length cap,dv] 83 (0,0)))
  (hg:Blk w.heap g 5 cur) (hnc:l.length<=cap) (hcm:cap<=maxLen) (hcs:cap*1<=cur.size) (ht:cur.toList.take (l.length*1)=(eK .u8).l (bI l)):
  Calls Tryz.prog 44 #[.pointer (some ⟨b,0,none⟩)] w fun e w'=>e= .returned (.string ⟨l.toArray⟩)/\Go.X.Rest w w'/\Fr [g] w.heap w'.heap:=by
 have hl0:l.length≠0:=by simpa using h0
 have t127:Tryz.prog.underlying 139=some (.pointer 5):=by kernel_rfl
 have cB:Tryz.prog.cellsOf 5=1:=by kernel_rfl
 obtain⟨f,hgc,_⟩:=hg
 have hgc:w.heap[g]? =some (.cells cur 5 f):=hgc
 have c1:w.drew.cell? ⟨b,1,none⟩=some (.slice (some ⟨g,0,none⟩) l.length cap):=by
  have:w.drew.heap[b]? =some (.cells #[p,.slice (some ⟨g,0,none⟩) l.length cap,dv] 83 (0,0)):=hb
  rw[Lib.cell_of_heap this];rfl
 have hSD:(Builtin.unsafeSliceData_ #[42] 139 #[.slice (some ⟨g,0,none⟩) l.length cap]).run Tryz.prog w.drew= .ok (.pointer (some ⟨g,0,none⟩)) w.drew:=
  Lib.run_unsafeSliceData_row _ _ _ _ _ _ (by omega)
 have hUS:(Builtin.unsafeString_ #[139,3] 9 #[.pointer (some ⟨g,0,none⟩),.int .i64 l.length]).run Tryz.prog w.drew= .ok (.string ⟨l.toArray⟩) (w.drew.freeze ⟨g,0,none⟩ l.length):=by
  refine Lib.run_unsafeString_row w.drew 139 3 9 5 t127 cB g cur.size (by have hg':w.drew.heap[g]? =some (.cells cur 5 f):=hgc;simp[World.shape?,hg']) l h0 (by omega) (by unfold maxLen at hcm;omega) ?_
  intro j x hx
  have hg':w.drew.heap[g]? =some (.cells cur 5 f):=hgc
  have hj:j<l.length:=(List.getElem?_eq_some_iff.1 hx).1
  have e1:(cur.toList.take (l.length*1))[j]? =some (.int .u8 x.toNat):=by
   rw[ht,eK8_l,bI,List.map_map,List.getElem?_map,hx];rfl
  rw[List.getElem?_take,if_pos (by omega)]at e1
  have ea:((⟨g,0,none⟩:Addr).add j)=⟨g,0+j,none⟩:=by simp[Addr.add];omega
  rw[ea,cell_hcell]
  unfold hcell
  rw[hg',Nat.zero_add];simpa using e1
 have fz:=fr_freeze (w:=w) (g:=g) (n:=l.length)
 have rz:=rest_freeze (w:=w) (g:=g) (n:=l.length)
 have mixed:Tryz.prog.follows .mixedOrders=true:=by kernel_rfl
 go_enter Tryz.func44,Tryz.ntmps44
 go_wp2
 go_region_o
 all_goals (go_wp2;go_ret;exact⟨rfl,rz,fz⟩)
end Go.Proofs.YtlflalecmhgmjaaGreatDoor.N
namespace Go.Proofs.YtlflalecmhgmjaaGreatDoor.G
def linesT (ls:List (List UInt8)):List UInt8:=ls.flatMap fun l=>l++[10]
def wr (tx:Nat->List UInt8) (d:Dc):List UInt8:=linesT (docL tx d)
theorem linesT_cons (l:List UInt8) (ls:List (List UInt8)):linesT (l::ls)=l++(10::linesT ls):=by simp[linesT]
theorem linesT_app (a b:List (List UInt8)):linesT (a++b)=linesT a++linesT b:=by simp[linesT]
end Go.Proofs.YtlflalecmhgmjaaGreatDoor.G
namespace Go.Proofs.YtlflalecmhgmjaaGreatDoor.N
open Go.Proofs.YtlflalecmhgmjaaGreatDoor
open Go.X
open Go.Proofs
set_option maxRecDepth 100000
theorem sybl0 {h0 h:Heap} {M:List Nat} {cs:List Ck} (Y:Sy h0 M h cs) (k:Nat) {c:Ck} (hk:cs[k]? =some c):∀x∈c.own,x<h.size:=(c.lt h (Y.ok hk)).1
section
variable {b c d:Nat} {u:Bool} {A:Option Addr} {l:List UInt8} {h:Heap}
theorem ok128 (H:Hp h (wC b u A c d l)):CallsH Tryz.prog 128 #[.pointer (some ⟨b,0,none⟩)] h fun v h'=>v= .tuple #[]/\Sq h (wC b u A c d l) h' (wC b true A c d l):=by
 intro w hw
 subst hw
 have hb:w.heap[b]? =some (.cells #[pU u b,.slice A l.length c,.int .i64 (d:Int)] 83 (0,0)):=H.ok 0 _ rfl
 cases u with
 | true=>
  have h0:w.cell? ⟨b,0,none⟩=some (.pointer (some ⟨b,0,none⟩)):=by rw[cell_hcell,hcell_of hb];rfl
  refine(copy_used b w h0).mono fun e w' r=>?_
  obtain⟨rfl,rfl⟩:=r
  exact⟨_,rfl,Rest.refl _,rfl,Sq.start H⟩
 | false=>
  have h0:w.cell? ⟨b,0,none⟩=some (.pointer none):=by rw[cell_hcell,hcell_of hb];rfl
  have hsh:w.shape? b=some (83,3):=by simp[World.shape?,hb]
  have hfz:w.frozen? ⟨b,0,none⟩=false:=by simp[World.frozen?,hb]
  refine(copy_fresh b w h0 hsh hfz).mono fun e w' r=>?_
  obtain⟨rfl,rfl⟩:=r
  refine⟨_,rfl,Rest.setCell _ _ _,rfl,?_⟩
  rw[heap_setCell]
  exact⟨(Sy.start H).stO 0 rfl 0 (.pointer (some ⟨b,0,none⟩)),fun x hx=>by simp[rds,wC,Ck.ob,Ck.sl]at hx⟩
theorem wrds {c' d':Nat} {u':Bool} {A':Option Addr} {l':List UInt8}:rds (wC b u' A' c' d' l')=[]:=rfl
theorem ok86 {s:ByteArray} (H:Hp h (wC b u A c d l)) (hs:l.length+s.size<=100000000):CallsH Tryz.prog 86 #[.pointer (some ⟨b,0,none⟩),.string s] h fun v h'=>v= .tuple #[.int .i64 (s.size:Int),.nilIface]/\
  ∃A' c',Sq h (wC b u A c d l) h' (wC b true A' c' d (l++s.data.toList)):=by
 apply calls86
 unfold S86
 refine callX_ofR (owns (wC b u A c d l)) (ok128 H) (by simp) (fun _ _ r=>r.2.fr) fun v h1 r=>?_
 obtain⟨rfl,Q⟩:=r
 have Y:=Q.sy
 refine⟨rfl,b,0,rfl,A,l.length,c,Y.cellO 0 rfl 1 rfl,(eK .u8).l (bI l),(Y.ownS 1 rfl),by simp,by omega,by unfold maxLen;omega,?_⟩
 intro sA sC h2 ow f g _
 have e:Lib.strCells s=(eK .u8).l (bI s.data.toList):=(bytesL_l s).symm
 rw[e]at ow
 have Y1:=Y.appS 1 rfl (bI s.data.toList) ow f g rfl (by rw[bI_len];rfl)
 refine⟨b,0,rfl,⟨_,Y1.cellO 0 rfl 1 rfl⟩,Y1.freeO 0 rfl 1,rfl,sA,sC,?_,fun x hx=>by rw[wrds]at hx;cases hx⟩
 have Y2:=Y1.stO 0 rfl 1 (.slice sA (l.length+s.size) sC)
 have el:(l++s.data.toList).length=l.length+s.size:=List.length_append
 unfold wC
 rw[el,bI_app]
 exact Y2
theorem ok88 {x:UInt8} (H:Hp h (wC b u A c d l)) (hs:l.length<=100000000):CallsH Tryz.prog 88 #[.pointer (some ⟨b,0,none⟩),.int .u8 ((x.toNat:Nat):Int)] h fun v h'=>v= .nilIface/\
  ∃A' c',Sq h (wC b u A c d l) h' (wC b true A' c' d (l++[x])):=by
 apply calls88
 unfold S88
 refine callX_ofR (owns (wC b u A c d l)) (ok128 H) (by simp) (fun _ _ r=>r.2.fr) fun v h1 r=>?_
 obtain⟨rfl,Q⟩:=r
 have Y:=Q.sy
 refine⟨rfl,b,0,rfl,A,l.length,c,Y.cellO 0 rfl 1 rfl,?_⟩
 intro h2
 have Y1:Sy h _ h2 (wC b true A c d l):=Y.gr (Fr.push h1 _)
 have hbl:b<h1.size:=sybl0 Y 0 rfl b (by simp[Ck.ob])
 have hbA:∀y∈blkOf A,y<h1.size:=sybl0 Y 1 rfl
 refine⟨(eK .u8).l (bI l),Y1.ownS 1 rfl,fun y hy=>?_,by omega,by unfold maxLen;omega,?_⟩
 ·simp at hy;subst hy
  intro q;have:=hbA _ q;omega
 intro sA sC h3 ow f g _
 have Y2:=Y1.appS 1 rfl (bI [x]) ow f g rfl rfl
 refine⟨b,0,rfl,by omega,⟨_,Y2.cellO 0 rfl 1 rfl⟩,Y2.freeO 0 rfl 1,rfl,sA,sC,?_,fun x hx=>by rw[wrds]at hx;cases hx⟩
 have Y3:=Y2.stO 0 rfl 1 (.slice sA (l.length+1) sC)
 unfold wC
 rw[List.length_append,bI_app]
 exact Y3
theorem ok43 (H:Hp h (wC b u A c d l)):CallsH Tryz.prog 43 #[.pointer (some ⟨b,0,none⟩)] h fun v h'=>v= .int .i64 (l.length:Int)/\h'=h:=by
 apply calls43
 unfold S43
 exact⟨b,0,rfl,A,l.length,c,(Sy.start H).cellO 0 rfl 1 rfl,rfl,rfl⟩
theorem ok44 (H:Hp h (wC b u A c d l)) (h0:l≠[]):CallsH Tryz.prog 44 #[.pointer (some ⟨b,0,none⟩)] h fun v h'=>v= .string (G.mkB l)/\Fr (owns (wC b u A c d l)) h h':=by
 intro w hw
 subst hw
 have hb:w.heap[b]? =some (.cells #[pU u b,.slice A l.length c,.int .i64 (d:Int)] 83 (0,0)):=H.ok 0 _ rfl
 obtain⟨⟨o1,o2⟩,_⟩:Ownd w.heap 5 1 A l.length c ((eK .u8).l (bI l))/\_:=H.ok 1 _ rfl
 have hl0:l.length≠0:=by simpa using h0
 rcases o2 with⟨_,q,_⟩ | ⟨g,cur,rfl,q1,q2,q3,q4,q5⟩
 ·exact absurd q hl0
 refine(str44 w h0 hb q1 q2 q3 q4 q5).mono fun e w' ⟨r1,r2,r3⟩=>⟨_,r1,r2,rfl,r3.mono fun x hx=>?_⟩
 simp at hx;subst hx
 simp[owns,wC,Ck.ob,Ck.sl,blkOf]
theorem rep2 (n:Nat):Lib.repeatL [32,32] n=G.ind (2*n):=by
 induction n with
 | zero=>rfl
 | succ n ih=>
  have:Lib.repeatL [32,32] (n+1)=32::32::Lib.repeatL [32,32] n:=rfl
  rw[this,ih,show 2*(n+1)=2*n+1+1 by omega];rfl
def wds (ws:List ByteArray):List Value:=ws.map Value.string
def jn (ws:List ByteArray):List UInt8:=Lib.join (ws.map (·.data.toList)) [32]
def lnB (d:Nat) (ws:List ByteArray):List UInt8:=G.ind (2*d)++(jn ws++[10])
theorem ok52 {p:Nat} {ws:List ByteArray} (H:Hp h (wC b u A c d l++[Ck.ob p 9 (wds ws)])) (hd:d<=100) (hl:l.length<=90000000) (hw:ws.length<=100/\(jn ws).length<=1000000):
  CallsH Tryz.prog 52 #[.pointer (some ⟨b,0,none⟩),.slice (some ⟨p,0,none⟩) ws.length ws.length] h fun v h'=>v= .tuple #[]/\
   ∃A' c',Sq h (wC b u A c d l++[Ck.ob p 9 (wds ws)]) h' (wC b true A' c' d (l++lnB d ws)++[Ck.ob p 9 (wds ws)]):=by
 apply calls52
 unfold S52
 intro K
 have Q:=Sq.start H
 refine⟨b,0,rfl,b,0,rfl,(d:Int),Q.sy.cellO 0 rfl 2 rfl,?_⟩
 refine callX_ofR (R:=fun v h'=>v= .string (G.mkB (G.ind (2*d)))/\Fr [] h h') [] ?_ (by simp) (fun _ _ r=>r.2) ?_
 ·refine callsH_below (fun w hw=>Go.Proofs.Tryz.strings_Repeat (⟨#[32,32]⟩:ByteArray) d w (by omega) (by show 2*d<=_;omega)) fun h' f=>⟨?_,f⟩
  show Value.string ⟨(Lib.repeatL [32,32] d).toArray⟩=_
  rw[rep2];rfl
 rintro v h1 ⟨rfl,f1⟩
 refine⟨_,rfl,f1,?_⟩
 have Q1:=Q.gr f1
 refine callX_ofR (owns (wC b u A c d l)) (ok86 (u:=u) (A:=A) (c:=c) (d:=d) (l:=l) (Q1.pick [0,1] rfl).hp (by show l.length+(List.replicate (2*d) (32:UInt8)).toArray.size<=_;simp;omega)) (by simp) (fun _ _ r=>r.2.choose_spec.choose_spec.fr) ?_
 rintro v h2 ⟨rfl,A2,c2,q2⟩
 have Q2:Sq h (wC b u A c d l++[Ck.ob p 9 (wds ws)]) h2 (wC b true A2 c2 d (l++G.ind (2*d))++[Ck.ob p 9 (wds ws)]):=Sq.call Q1 q2
 refine⟨_,.inl ⟨rfl,?_⟩⟩
 show K h2
 dsimp-zeta only[K]
 intro K2
 refine⟨b,0,rfl,?_⟩
 have hp2:h2[p]? =some (.cells (wds ws).toArray 9 (0,0)):=Q2.sy.ok (k:=2) (c:=Ck.ob p 9 (wds ws)) rfl
 refine callX_ofR (R:=fun v h'=>v= .string (G.mkB (jn ws))/\Fr [] h2 h') [] ?_ (by simp) (fun _ _ r=>r.2) ?_
 ·refine callsH_below (fun w hw'=>Go.Proofs.Tryz.strings_Join p 0 ws.length ws (⟨#[32]⟩:ByteArray) w (fun j x hx=>?_) ?_ (by omega) (Nat.le_refl _) (by have:=hw.2;unfold jn at this;show(Lib.join (ws.map (·.data.toList)) [32]).length<=_;omega)) fun h' f=>⟨rfl,f⟩
  ·subst hw'
   rw[cell_hcell,hcell_of hp2,Nat.zero_add]
   simp[wds,hx]
  ·subst hw'
   exact blk_lt hp2
 rintro v h3 ⟨rfl,f3⟩
 refine⟨_,rfl,f3,?_⟩
 have Q3:=Q2.gr f3
 have e1:(l++G.ind (2*d)).length=l.length+2*d:=by simp[G.ind]
 refine callX_ofR (owns (wC b true A2 c2 d (l++G.ind (2*d)))) (ok86 (u:=true) (A:=A2) (c:=c2) (d:=d) (l:=l++G.ind (2*d)) (Q3.pick [0,1] rfl).hp (by rw[e1];show l.length+2*d+(jn ws).toArray.size<=_;have:=hw.2;simp;omega)) (by simp) (fun _ _ r=>r.2.choose_spec.choose_spec.fr) ?_
 rintro v h4 ⟨rfl,A4,c4,q4⟩
 have Q4:Sq h (wC b u A c d l++[Ck.ob p 9 (wds ws)]) h4 (wC b true A4 c4 d (l++G.ind (2*d)++jn ws)++[Ck.ob p 9 (wds ws)]):=Sq.call Q3 q4
 refine⟨_,.inl ⟨rfl,?_⟩⟩
 show K2 h4
 dsimp-zeta only[K2]
 refine⟨b,0,rfl,?_⟩
 have e2:(l++G.ind (2*d)++jn ws).length=l.length+2*d+(jn ws).length:=by rw[List.length_append,e1]
 refine callX_ofR (owns (wC b true A4 c4 d (l++G.ind (2*d)++jn ws))) (ok88 (x:=10) (u:=true) (A:=A4) (c:=c4) (d:=d) (l:=l++G.ind (2*d)++jn ws) (Q4.pick [0,1] rfl).hp (by rw[e2];have:=hw.2;omega)) (by simp) (fun _ _ r=>r.2.choose_spec.choose_spec.fr) ?_
 rintro v h5 ⟨rfl,A5,c5,q5⟩
 refine .inl ⟨rfl,rfl,A5,c5,?_⟩
 have Q5:Sq h (wC b u A c d l++[Ck.ob p 9 (wds ws)]) h5 (wC b true A5 c5 d (l++G.ind (2*d)++jn ws++[10])++[Ck.ob p 9 (wds ws)]):=Sq.call Q4 q5
 have e3:l++G.ind (2*d)++jn ws++[10]=l++lnB d ws:=by unfold lnB;simp
 rw[e3]at Q5
 exact Q5
theorem ok51 {k:ByteArray} (H:Hp h (wC b u A c d l)) (hd:d<=99) (hl:l.length<=90000000) (hk:k.size<=1000):CallsH Tryz.prog 51 #[.pointer (some ⟨b,0,none⟩),.string k] h fun v h'=>v= .tuple #[]/\
  ∃A' c',Sq h (wC b u A c d l) h' (wC b true A' c' (d+1) (l++lnB d [k,⟨#[91]⟩])):=by
 apply calls51
 unfold S51
 intro h1
 have Y:Sy h (owns (wC b u A c d l)) h1 (wC b u A c d l++[Ck.ob h.size 9 (wds [k,⟨#[91]⟩])]):=Sy.newO (Sy.start H) _
 have hj:(jn [k,⟨#[91]⟩]).length<=1000000:=by
  have:k.data.toList.length=k.size:=rfl
  simp[jn,Lib.join];omega
 refine callX_ofR (owns (wC b u A c d l++[Ck.ob h.size 9 (wds [k,⟨#[91]⟩])])) (ok52 (ws:=[k,⟨#[91]⟩]) Y.hp (by omega) hl ⟨by simp,hj⟩) (by simp) (fun _ _ r=>r.2.choose_spec.choose_spec.fr) ?_
 rintro v h2 ⟨rfl,A2,c2,q2⟩
 have Z:Sq h (wC b u A c d l) h1 (wC b u A c d l++[Ck.ob h.size 9 (wds [k,⟨#[91]⟩])]):=⟨Y,fun x hx=>by simp[rds,wC,Ck.ob,Ck.sl]at hx⟩
 have Q2:=Z.callT q2
 refine⟨rfl,b,0,rfl,(d:Int),Q2.sy.cellO 0 rfl 2 rfl,b,0,rfl,⟨_,Q2.sy.cellO 0 rfl 2 rfl⟩,Q2.sy.freeO 0 rfl 2,rfl,A2,c2,?_⟩
 have Y3:=Q2.sy.stO 0 rfl 2 (.int .i64 ((d+1:Nat):Int))
 rw[show IntKind.i64.wrap ((d:Int)+1)=((d+1:Nat):Int) by rw[wr (by omega) (by omega)];omega]
 exact⟨Y3.pick [0,1] rfl,fun x hx=>by simp[rds,pk,wC,Ck.ob,Ck.sl]at hx⟩
theorem ok56 (H:Hp h (wC b u A c (d+1) l)) (hd:d<=99) (hl:l.length<=90000000):CallsH Tryz.prog 56 #[.pointer (some ⟨b,0,none⟩)] h fun v h'=>v= .tuple #[]/\
  ∃A' c',Sq h (wC b u A c (d+1) l) h' (wC b true A' c' d (l++lnB d [⟨#[93]⟩])):=by
 apply calls56
 unfold S56
 have Y:=Sy.start H
 refine⟨b,0,rfl,((d+1:Nat):Int),Y.cellO 0 rfl 2 rfl,b,0,rfl,⟨_,Y.cellO 0 rfl 2 rfl⟩,Y.freeO 0 rfl 2,?_⟩
 rw[show IntKind.i64.wrap (((d+1:Nat):Int)-1)=(d:Int) by rw[wr (by omega) (by omega)];omega]
 intro h1 h2
 have Y1:Sy h (owns (wC b u A c (d+1) l)) h1 (wC b u A c d l):=Y.stO 0 rfl 2 (.int .i64 (d:Int))
 have Y2:Sy h (owns (wC b u A c (d+1) l)) h2 (wC b u A c d l++[Ck.ob h1.size 9 (wds [⟨#[93]⟩])]):=Sy.newO Y1 _
 refine callX_ofR (owns (wC b u A c d l++[Ck.ob h1.size 9 (wds [⟨#[93]⟩])])) (ok52 (ws:=[⟨#[93]⟩]) Y2.hp (by omega) hl ⟨by simp,by simp[jn,Lib.join]⟩) (by simp) (fun _ _ r=>r.2.choose_spec.choose_spec.fr) ?_
 rintro v h3 ⟨rfl,A2,c2,q2⟩
 have Z:Sq h (wC b u A c (d+1) l) h2 (wC b u A c d l++[Ck.ob h1.size 9 (wds [⟨#[93]⟩])]):=⟨Y2,fun x hx=>by simp[rds,wC,Ck.ob,Ck.sl]at hx⟩
 have Q2:=Z.callT q2
 exact⟨rfl,rfl,A2,c2,Q2.pick [0,1] rfl⟩
end
end Go.Proofs.YtlflalecmhgmjaaGreatDoor.N
