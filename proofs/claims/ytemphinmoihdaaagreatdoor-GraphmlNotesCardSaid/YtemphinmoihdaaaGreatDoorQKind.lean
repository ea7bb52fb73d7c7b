/- The program's notes between elements of GraphML, and what may stand ahead of all, by the plain reader. Conditions: none. -/
import Derived.Test.YtemphinmoihdaaaGreatDoorQTag
import Derived.Test.YtemphinmoihdaaaGreatDoorSXb
set_option linter.unusedVariables false
set_option linter.unusedSimpArgs false
open Go.IntKind (i64 u64 u8 i32)
namespace Go.Proofs.YtemphinmoihdaaaGreatDoor.N
open Go.Proofs.YtemphinmoihdaaaGreatDoor
open Go.X
set_option maxRecDepth 100000
theorem Mq {gl:GL} {h:ab} (g:Gl gl h) {t sub:ByteArray} (ht:t.size<4294967281):QH 59 #[.string t,.string sub] h fun v h'=>v= QM (Lib.index t.data.toList sub.data.toList)/\h'=h:=by
 intro w hw
 obtain⟨m,hm⟩:=g.ml
 refine(Go.Proofs.Tryz.strings_Index t sub m w ht (by rw[bq,hw];exact hm)).mono fun e w' ⟨h1,h2⟩=>⟨_,h1,by rw[h2];exact Rest.refl w,rfl,by rw[h2,hw]⟩
theorem jQ {s:ByteArray} {i:Nat} {L l:QS} (a:G.At s i L):G.preB s i l=l.isPrefixOf L:=by
 unfold G.preB
 rw[G.nj (j:=0),a.2,Nat.add_sub_cancel_left,Bool.eq_iff_iff]
 simp only[decide_eq_true_eq,List.isPrefixOf_iff_prefix]
 constructor
 ·intro e
  rw[<-e]
  exact List.take_prefix _ _
 ·intro h
  exact(List.prefix_iff_eq_take.1 h).symm
theorem tG {s:ByteArray} {l:QS} (hl:l≠[]):∀(n i:Nat),s.size<=i->G.mh s l n i=none
 | 0,_,_=>rfl
 | n+1,i,hi=>by
  rw[G.mh,if_neg,tG hl n (i+1) Qz]
  intro p
  have:=List.length_pos_iff.2 hl
  rcases G.pV p with q | q
  ·omega
  ·exact hl q
theorem qD {s:ByteArray} {l:QS} (hl:l≠[]):∀{L:QS} {i n:Nat},G.At s i L->L.length<n->(Lib.index L l<0/\G.mh s l n i=none)\/∃k:Nat,Lib.index L l=k/\G.mh s l n i=some (i+k)/\i+k+l.length<=s.size
 | [],i,n,a,hn=>by
  have:=a.nil
  refine .inl ⟨?_,tG hl n i Qz⟩
  cases l with
  | nil=>exact absurd rfl hl
  | cons c l=>simp[Lib.index]
 | c::r,i,0,a,hn=>by simp at hn
 | c::r,i,n+1,a,hn=>by
  obtain⟨h1,h2,h3⟩:=a.cons
  have hp:=jQ (l:=l) a
  rw[G.mh]
  unfold Lib.index
  by_cases q:G.preB s i l=true
  ·rw[if_pos q,<-hp,if_pos q]
   refine .inr ⟨0,rfl,rfl,?_⟩
   rcases G.pV q with w | w
   ·omega
   ·exact absurd w hl
  ·rw[if_neg q,<-hp,if_neg q]
   rcases qD hl (n:=n) h3 (by simp at hn;omega)with⟨g1,g2⟩ | ⟨k,g1,g2,g3⟩
   ·have:=Lib.index_ge r l
    have e:Lib.index r l= -1:=by omega
    rw[e]
    exact .inl ⟨QA,g2⟩
   ·rw[g1]
    refine .inr ⟨k+1,?_,by rw[g2];congr 1;omega,Qz⟩
    rw[if_neg (by simp<;>omega)]
    omega
section
variable {gl:GL} {h:ab} {b i n:Nat} {s:ByteArray}
theorem JD (L:Lx h b s i) (g:Gl gl h) (hb:b∉glB gl) (hi:i<=s.size) (hs:s.size<=262144) (hn:G.dS s n i≠ .un):
  QJ 36 #[.pointer (some ⟨b,0,none⟩)] h (fun v h'=>∃o j,G.dS s n i= .ok o/\v= .bool o.isSome/\i<=j/\j<=s.size/\(∀k,o=some k->j=k/\i<j)/\(o=none->j=s.size)/\Mv b h h' j) (fun v h'=>∃f,G.dS s n i= .no f/\v=flx f/\Fr [b] h h'):=by
 apply GN
 unfold S36
 refine⟨fun _ h'=>∃n' j,G.dS s n i=G.dS s n' j/\i<=j/\j<=s.size/\Mv b h h' j,vW s b,⟨n,i,rfl,Nat.le_refl _,hi,Mv.refl L⟩,?_⟩
 rintro hv ⟨n',j,eL,hij,hj,M⟩
 cases n' with
 | zero=>exact absurd (eL.trans rfl) hn
 | succ m=>
 rw[G.dS]at eL
 have Lj:=L.mv M
 have hge:=G.uK G.cj s j
 have hle:=G.yy G.cj s _ j rfl hj
 refine ao [b] (JP Lj hj hs) QB (fun _ _ r=>r.2.fr) fun v hv2 r=>?_
 obtain⟨rfl,M2⟩:=r
 have M2:=M.trans M2
 generalize G.run G.cj s j=j1 at*
 have L2:=L.mv M2
 refine⟨_,rfl,b,0,rfl,_,L2.c1,b,0,rfl,_,L2.c0,aH (fun q=>?_) fun q=>?_⟩
 ·have q:j1=s.size:=by omega
  rw[if_pos Qz]at eL
  exact⟨none,j1,eL,rfl,Qz,Qz,fun k z=>(by cases z),fun _=>q,M2⟩
 have q:j1<s.size:=by omega
 rw[if_neg Qz]at eL
 refine⟨b,0,rfl,_,L2.c1,?_⟩
 refine az [b] (yW (c:=60) L2 QA hs) QB (fun _ _ r=>r.2.2.2.fr) (fun _ _ r=>Fr.of_eq r.2.2) (fun v hv3 r=>?_) fun v hv3 r=>?_
 rotate_left
 ·obtain⟨e,rfl,rfl⟩:=r
  exact⟨_,by rw[eL,e];rfl,rfl,M2.fr⟩
 obtain⟨e1,-,rfl,M3⟩:=r
 have M3:=M2.trans M3
 have L3:=L.mv M3
 rw[e1]at eL
 simp only[G.Er.bind]at eL
 refine⟨rfl,bV (yV (c:=33) L3 QA) ⟨_,rfl,bo (fun q2=>?_) fun q2=>?_⟩⟩
 ·have q2:=of_decide_eq_false q2
  rw[if_pos q2]at eL
  exact⟨some (j1+1),j1+1,eL,rfl,Qz,Qz,fun k z=>by cases z;exact⟨rfl,Qz⟩,fun z=>(by cases z),M3⟩
 have q2:=of_decide_eq_true q2
 rw[if_neg (fun z=>z q2)]at eL
 have q3:j1+1<s.size:=G.mZ Qz
 refine⟨b,0,rfl,_,L3.c1,b,0,rfl,L3.cell,L3.fr,?_⟩
 rw[wrN Qz]
 intro hv5
 have M5:Mv b h hv5 (j1+1+1):=M3.trans (Mv.to L3 _)
 have L5:=L.mv M5
 clear_value hv5
 refine az [b] (yW (c:=45) L5 QA hs) QB (fun _ _ r=>r.2.2.2.fr) (fun _ _ r=>Fr.of_eq r.2.2) (fun v hv6 r=>?_) fun v hv6 r=>?_
 rotate_left
 ·obtain⟨e,rfl,rfl⟩:=r
  exact⟨_,by rw[eL,e],rfl,M5.fr⟩
 obtain⟨e2,-,rfl,M6⟩:=r
 have M6:=M5.trans M6
 rw[e2]at eL
 simp only[G.Er.bind]at eL
 refine⟨rfl,?_⟩
 refine az [b] (yW (c:=45) (L.mv M6) QA hs) QB (fun _ _ r=>r.2.2.2.fr) (fun _ _ r=>Fr.of_eq r.2.2) (fun v hv7 r=>?_) fun v hv7 r=>?_
 rotate_left
 ·obtain⟨e,rfl,rfl⟩:=r
  exact⟨_,by rw[eL,e],rfl,M6.fr⟩
 obtain⟨e3,q4,rfl,M7⟩:=r
 have M7:=M6.trans M7
 have L7:=L.mv M7
 rw[e3]at eL
 simp only[G.Er.bind]at eL
 generalize hkd:j1+1+1+1+1=k at*
 have hk:k<=s.size:=by have:=q4;omega
 refine⟨rfl,b,0,rfl,_,L7.c0,b,0,rfl,_,L7.c1,Qz,Qz,?_⟩
 have g7:Gl gl hv7:=g.fr M7.fr (fun x hx=>by simp;rintro rfl;exact hb hx)
 rw[Int.toNat_natCast]
 refine bV (Mq g7 (by rw[ByteArray.size_extract];omega)) ?_
 have hat:=FF (s:=s) (j:=k) hk
 have hlen:(s.extract k s.size).data.toList.length<s.size+1-k:=by
  rw[G.uM,List.length_drop,Array.length_toList]
  have:s.data.size=s.size:=rfl
  omega
 have esub:(⟨#[45,45,62]⟩:ByteArray).data.toList=G.cC:=rfl
 rw[esub]
 rcases qD (l:=G.cC) QA hat hlen with⟨g1,g2⟩ | ⟨d,g1,g2,g3⟩
 ·rw[g2]at eL
  refine⟨_,rfl,Fr.refl _ _,aq (fun z=>?_) fun _=>⟨_,eL,rfl,M7.fr⟩⟩
  have:=of_decide_eq_true z
  omega
 ·rw[g2]at eL
  rw[g1]
  have hd:k+d+3<=s.size:=g3
  refine⟨_,rfl,Fr.refl _ _,aq (fun _=>⟨rfl,b,0,rfl,_,L7.c1,b,0,rfl,L7.cell,L7.fr,?_⟩) fun z=>?_⟩
  ·rw[wr (x:=(d:Int)+(3:Int)) Qz Qz,wr Qz Qz,show(k:Int)+((d:Int)+(3:Int))=((k+d+3:Nat):Int) by omega]
   intro hv10
   have M10:Mv b h hv10 (k+d+3):=M7.trans (Mv.to L7 _)
   refine⟨⟨m,k+d+3,eL,Qz,hd,M10⟩,?_⟩
   rw[eZ (L.mv M10),eZ Lj]
   omega
  ·have:=of_decide_eq_false z
   omega
theorem tH {l:QS} {j:Nat} (hj:¬j<s.size\/(∃c r,l=c::r/\G.bt s j≠c.toNat)\/l=[]):G.same s l j=j:=by
 cases l with
 | nil=>rfl
 | cons c r=>
  rw[G.same,if_neg]
  rcases hj with q | ⟨_,_,e,q⟩ | q
  ·intro z
   have:=G.mZ (s:=s) (i:=j) (by rw[z];have:=c.toNat_lt;omega)
   exact q this
  ·cases e;exact q
  ·cases q
theorem CF :∀{n:Nat},n<5->∃f,G.kS.drop n=f::G.kS.drop (n+1)/\(⟨#[60,63,120,109,108]⟩:ByteArray)[Int.toNat (n:Int)]? =some f
 | 0,_=>⟨60,rfl,rfl⟩
 | 1,_=>⟨63,rfl,rfl⟩
 | 2,_=>⟨120,rfl,rfl⟩
 | 3,_=>⟨109,rfl,rfl⟩
 | 4,_=>⟨108,rfl,rfl⟩
theorem PJ (L:Lx h b s 0) (g:Gl gl h) (hs:s.size<=262144):QJ 35 #[.pointer (some ⟨b,0,none⟩)] h (fun v h'=>∃j,G.head s= .ok j/\v= .tuple #[]/\j<=s.size/\Mv b h h' j) (fun v h'=>∃f,G.head s= .no f/\v=flx f/\Fr [b] h h'):=by
 apply G1
 unfold S35
 intro K2
 have k2:∀n:Nat,G.same s G.kS 0=n->K2 (n:Int) h:=by
  intro n hn
  have eH:G.head s=if n<2 then .ok 0 else G.bJ (decide (n=5)) (n,15) <| match G.mh s [63,62] (s.size+1) 0 with
    | some k=>.ok (k+2)
    | none=>.no (0,15):=by
   unfold G.head
   rw[hn];rfl
  refine af (fun q=>?_) fun q=>?_
  ·rw[if_pos Qz]at eH
   exact⟨0,eH,rfl,Qz,Mv.refl L⟩
  rw[if_neg Qz]at eH
  refine aq (fun q2=>?_) fun q2=>?_
  rotate_left
  ·rw[decide_eq_false (by intro z;rw[z]at q2;simp at q2)]at eH
   exact⟨_,eH,rfl,Fr.refl _ _⟩
  rw[decide_eq_true (by have:=eq_of_beq q2;omega)]at eH
  simp only[G.bJ]at eH
  refine⟨rfl,b,0,rfl,_,L.c0,bV (Mq g Qz) ?_⟩
  have hat:G.At s 0 s.data.toList:=⟨Qz,QB⟩
  have esub:(⟨#[63,62]⟩:ByteArray).data.toList=[63,62]:=rfl
  rw[esub]
  have hlen:s.data.toList.length<s.size+1:=by
   rw[Array.length_toList]
   have:s.data.size=s.size:=rfl
   omega
  rcases qD (l:=[63,62]) QA hat hlen with⟨g1,g2⟩ | ⟨d,g1,g2,g3⟩
  ·rw[g2]at eH
   refine⟨_,rfl,aq (a:=0) (fun z=>?_) fun _=>⟨_,eH,rfl,Fr.refl _ _⟩⟩
   have:=of_decide_eq_true z
   omega
  ·rw[g2]at eH
   rw[g1]
   have hd:d+2<=s.size:=by
    have:0+d+2<=s.size:=g3
    omega
   refine⟨_,rfl,aq (a:=0) (fun _=>⟨rfl,b,0,rfl,L.cell,L.fr,?_⟩) fun z=>?_⟩
   ·rw[wr Qz Qz,show(d:Int)+(2:Int)=((d+2:Nat):Int) by omega]
    intro hv7
    exact⟨d+2,by rw[eH];simp,rfl,hd,Mv.to L _⟩
   ·have:=of_decide_eq_false z
    omega
 refine⟨fun l h'=>∃n:Nat,l=[QM (n:Int)]/\n<=5/\h'=h/\G.same s G.kS 0=G.same s (G.kS.drop n) n,mI 5,⟨0,rfl,QA,rfl,rfl⟩,?_⟩
 rintro z hv ⟨n,e,hn,rfl,hsm⟩
 cases e
 intro K
 have kk:(¬n<s.size\/n=5)->K hv:=by
  intro q
  refine k2 n (hsm.trans (tH ?_))
  rcases q with q | rfl
  ·exact .inl q
  ·exact .inr (.inr rfl)
 refine⟨b,0,rfl,_,L.c0,af (fun q=>af (fun q2=>?_) fun q2=>kk (.inr Qz)) fun q=>kk (.inl Qz)⟩
 obtain⟨c,hc,hb⟩:=get_at (s:=s) (j:=n) Qz
 obtain⟨f,f1,f2⟩:=CF (n:=n) Qz
 refine⟨b,0,rfl,_,L.c0,Qz,Qz,c,by rw[Int.toNat_natCast];exact hc,Qz,by show(n:Int)<((5:Nat):Int);omega,f,f2,aH (fun q3=>?_) fun q3=>?_⟩
 ·rw[wrN Qz]
  refine⟨⟨n+1,rfl,Qz,rfl,?_⟩,by simp only[mI];omega⟩
  rw[hsm,f1,G.same,if_pos Qz]
 ·exact k2 n (hsm.trans (tH (.inr (.inl ⟨f,_,f1,Qz⟩))))
end
end Go.Proofs.YtemphinmoihdaaaGreatDoor.N
namespace Go.X
theorem Sq.add1 {h0 h h':ab} {C cs:List Ck} {c:Ck} (q:Sq h0 C h cs) (Y:Sy h0 (aF C) h' (cs++[c])) (hr:c.rd=[]):Sq h0 C h' (cs++[c]):=by
 refine⟨Y,fun x hx=>q.ri x ?_⟩
 obtain⟨k,d,h1,h2⟩:=bR.1 hx
 rcases gu h1 with h1 | ⟨_,h1⟩
 ·exact bR.2 ⟨k,d,h1,h2⟩
 ·obtain⟨e,rfl⟩:=List.getElem?_eq_some_iff.1 h1
  simp[hr]at h2
abbrev Ms :=List (Nat × List (Value × Value))
def Ck.fy (mo:Option (Nat × List QS)) (fs:Fs) (ms:Ms):Ck:=
 ⟨(mo.map (·.1)).toList,fs.map (·.1)++ms.map (·.1),fun h=>(∀p,mo=some p->bG h p.1=some (Ent (ek p.2),(ek p.2).length))/\(∀f∈fs,ac h f.1 f.2.1=some f.2.2)/\∀m∈ms,bG h m.1=some (Ent m.2,m.2.length),
  fun h o=>⟨by
   intro b hb
   cases mo with
   | none=>simp at hb
   | some p=>
    simp only[Option.map_some,Option.toList_some,List.mem_singleton]at hb
    subst hb
    exact(Array.getElem?_eq_some_iff.1 (bD (o.1 p rfl))).1,fun b hb=>by
   rcases List.mem_append.1 hb with hb | hb
   ·obtain⟨f,h1,rfl⟩:=List.mem_map.1 hb
    exact bk (o.2.1 f h1)
   ·obtain⟨m,h1,rfl⟩:=List.mem_map.1 hb
    exact(Array.getElem?_eq_some_iff.1 (bD (o.2.2 m h1))).1⟩,fun h h' he hr o=>⟨fun p hp=>by
   subst hp
   exact kq ((he p.1 QB).trans (bD (o.1 p rfl))),fun f hf=>(dW (hr f.1 (List.mem_append_left _ (List.mem_map.2 ⟨f,hf,rfl⟩))) _).trans (o.2.1 f hf),
   fun m hm=>kq ((hr m.1 (List.mem_append_right _ (List.mem_map.2 ⟨m,hm,rfl⟩))).trans (bD (o.2.2 m hm)))⟩⟩
section
variable {h0 h h':ab} {M:List Nat} {cs:List Ck} {mo:Option (Nat × List QS)} {fs:Fs} {ms:Ms}
theorem Sy.factY (Y:Sy h0 M h cs) (k:Nat) (hk:cs[k]? =some (Ck.fy mo fs ms)) (j:Nat) {b o:Nat} {v:Value} (hj:fs[j]? =some (b,o,v)):ac h b o=some v:=(Y.ok hk).2.1 (b,o,v) (List.mem_of_getElem? hj)
theorem Sy.mapsY (Y:Sy h0 M h cs) (k:Nat) (hk:cs[k]? =some (Ck.fy mo fs ms)) (j:Nat) {m:Nat} {l:List (Value × Value)} (hj:ms[j]? =some (m,l)):bG h m=some (Ent l,l.length):=(Y.ok hk).2.2 (m,l) (List.mem_of_getElem? hj)
theorem Sy.mapY {m:Nat} {ks:List QS} (Y:Sy h0 M h cs) (k:Nat) (hk:cs[k]? =some (Ck.fy (some (m,ks)) fs ms)):bG h m=some (Ent (ek ks),(ek ks).length):=(Y.ok hk).1 (m,ks) rfl
theorem Sy.cutY (Y:Sy h0 M h cs) (l:List Nat) (hc:ib cs.length l=true) (mo:Option (Nat × List QS)) (fs:Fs) (ms:Ms)
  (hm:∀p,mo=some p->∃k,cs[k]? =some (Ck.mp p.1 (ek p.2))/\k∉l)
  (hf:∀f∈fs,ac h f.1 f.2.1=some f.2.2/\∃(k:Nat) (c:Ck),cs[k]? =some c/\((f.1∈c.own/\k∉l)\/(f.1∈c.rd/\c.own=[])))
  (hs:∀m∈ms,bG h m.1=some (Ent m.2,m.2.length)/\∃(k:Nat) (c:Ck),cs[k]? =some c/\m.1∈c.own/\k∉l) (hd:∀p,mo=some p->∀m∈ms,m.1≠p.1):
  Sy h0 M h (pk cs l++[Ck.fy mo fs ms]):=by
 have okx:(Ck.fy mo fs ms).ok h:=⟨fun p hp=>by
  obtain⟨k,h1,_⟩:=hm p hp
  exact Y.mapM k h1,fun f hf'=>(hf f hf').1,fun m hm'=>(hs m hm').1⟩
 have Z:=Y.pick l hc
 have ap:∀(i:Nat) (d:Ck),(pk cs l)[i]? =some d->Ap d (Ck.fy mo fs ms)/\Ap (Ck.fy mo fs ms) d:=by
  intro i d hi
  obtain⟨p,h1,h2⟩:=ja hc hi
  have hpl:p∈l:=List.mem_of_getElem? h1
  have ow:∀b∈(Ck.fy mo fs ms).own,b∉d.own/\b∉d.rd:=by
   intro b hb
   cases mo with
   | none=>simp[Ck.fy]at hb
   | some q=>
    simp only[Ck.fy,Option.map_some,Option.toList_some,List.mem_singleton]at hb
    subst hb
    obtain⟨k,h3,h4⟩:=hm q rfl
    exact Y.hp.ap k p _ d (fun e=>h4 (e▸hpl)) h3 h2 q.1 (by simp[Ck.mp])
  refine⟨fun b hb=>⟨fun x=>(ow b x).1 hb,fun x=>?_⟩,ow⟩
  rcases List.mem_append.1 (show b∈fs.map (·.1)++ms.map (·.1)from x)with x | x
  ·obtain⟨f,h3,rfl⟩:=List.mem_map.1 x
   obtain⟨hcl,k,c,h4,h5⟩:=hf f h3
   rcases h5 with⟨h5,h6⟩ | ⟨h5,h6⟩
   ·exact(Y.hp.ap k p c d (fun e=>h6 (e▸hpl)) h4 h2 f.1 h5).1 hb
   ·by_cases e:p=k
    ·subst e
     rw[h4]at h2
     cases h2
     rw[h6]at hb;cases hb
    ·exact(Y.hp.ap p k d _ e h2 h4 f.1 hb).2 h5
  ·obtain⟨m,h3,rfl⟩:=List.mem_map.1 x
   obtain⟨hcl,k,c,h4,h5,h6⟩:=hs m h3
   exact(Y.hp.ap k p c d (fun e=>h6 (e▸hpl)) h4 h2 m.1 h5).1 hb
 refine⟨Z.fr,⟨fun k c hk=>?_,fun i j c d hij hi hj=>?_⟩,fun k c hk b hb=>?_⟩
 ·rcases gu hk with hk | ⟨_,hk⟩
  ·exact Z.hp.ok k c hk
  ·obtain⟨e,rfl⟩:=List.getElem?_eq_some_iff.1 hk
   simpa using okx
 ·have lst:∀{n:Nat} {c:Ck},([Ck.fy mo fs ms]:List Ck)[n]? =some c->n=0/\c=Ck.fy mo fs ms:=by
   intro n c hn
   cases n with
   | zero=>simp at hn;exact⟨rfl,hn.symm⟩
   | succ n=>simp at hn
  rcases gu hi with hi | ⟨hl,hi⟩
  ·rcases gu hj with hj | ⟨hl2,hj⟩
   ·exact Z.hp.ap i j c d hij hi hj
   ·obtain⟨_,rfl⟩:=lst hj
    exact(ap i c hi).1
  ·obtain⟨e1,rfl⟩:=lst hi
   rcases gu hj with hj | ⟨hl2,hj⟩
   ·exact(ap j d hj).2
   ·obtain⟨e2,rfl⟩:=lst hj
    omega
 ·rcases gu hk with hk | ⟨_,hk⟩
  ·exact Z.ow k c hk b hb
  ·obtain⟨e,rfl⟩:=List.getElem?_eq_some_iff.1 hk
   simp only[List.length_singleton]at e
   have e0:k-(pk cs l).length=0:=by omega
   simp only[e0,List.getElem_cons_zero]at hb
   cases mo with
   | none=>simp[Ck.fy]at hb
   | some q=>
    simp only[Ck.fy,Option.map_some,Option.toList_some,List.mem_singleton]at hb
    subst hb
    obtain⟨k,h3,h4⟩:=hm q rfl
    exact Y.ow k _ h3 q.1 (by simp[Ck.mp])
end
end Go.X
namespace Go.Proofs.YtemphinmoihdaaaGreatDoor.N
open Go.Proofs.YtemphinmoihdaaaGreatDoor
open Go.X
set_option maxRecDepth 100000
structure XA where
 mK:Nat
 mN:Nat
 aE:QR
 cE:Nat
 aL:QR
 cL:Nat
 aS:QR
 cS:Nat
 aW:QR
 cW:Nat
def iC (l:List (ByteArray × ByteArray × ByteArray)):List (Value × Value):=l.map fun k=>(.string k.1,.agg #[.string k.2.1,.string k.2.2])
def nB (l:List (ByteArray × Nat)):List (Value × Value):=l.map fun p=>(.string p.1,QM (p.2:Int))
def eN :En (ByteArray × Nat):=⟨2,fun x=>[.string x.1,QM (x.2:Int)],QA,fun _=>rfl,fun x v h=>by simp at h;rcases h with rfl | rfl<;>rfl⟩
def rx (s:ByteArray) (A:XA) (σ:G.Xd):List Value:=
 [.string s,QM (σ.i:Int),QM (σ.n:Int),.slice none 0 0,.bool σ.dir,.slice none 0 0,.slice none 0 0,.slice none 0 0,.bool σ.graph,.map (some A.mK),.map (some A.mN),
  .slice A.aE σ.ends.length A.cE,.slice A.aL σ.labels.length A.cL,.slice A.aS σ.spots.length A.cS,.slice A.aW σ.weights.length A.cW,.bool σ.h0,.bool σ.h1,.bool σ.h2]
def stX (gl:GL) (b:Nat) (s:ByteArray) (A:XA) (σ:G.Xd):List Ck:=
 [Ck.ob b 63 (rx s A σ),Ck.mp A.mK (iC σ.keys),Ck.mp A.mN (nB σ.ids),Ck.sl eS 9 A.aL σ.labels.length A.cL σ.labels,Ck.sl eFF 68 A.aS σ.spots.length A.cS σ.spots,Ck.sl eF 66 A.aW σ.weights.length A.cW σ.weights,
  Ck.sl eN 114 A.aE σ.ends.length A.cE σ.ends,Ck.glob gl]
def chX (gl:GL) (b:Nat) (s:ByteArray) (mo:Option Nat) (fs:Fs) (ms:Ms) (A:XA) (x:G.Xs):List Ck:=stX gl b s A x.2++[Ck.fy (mo.map fun m=>(m,x.1)) fs ms]
def tK (t:Nat) (A:QR) (C:Nat) (tg:G.Tg):List Ck:=[Ck.ob t 111 (tgC A C tg.name tg.at_ tg.nameAt tg.list tg.whole),Ck.sl eA 142 A tg.list.length C tg.list]
def CV (F:Fn) (X Y:Array Value) (vs:List Value) (h:ab) (R Rp:Value->ab->Prop):Prop:=
 ∀(K E:Value->ab->Prop),(∀v h',R v h'->K v h')->(∀v h',Rp v h'->E v h')->lB Tryz.prog qR qS (some E) F X Y vs h [] K
theorem CV.up {g:Nat} {X Y:Array Value} {vs:List Value} {h:ab} {R Rp:Value->ab->Prop} (M:List Nat) (hm:mem qS g=true) (c:QJ g (X.toList++(vs++Y.toList)).toArray h R Rp) (f1:∀v h',R v h'->Fr M h h') (f2:∀v h',Rp v h'->Fr M h h'):CV (.func g) X Y vs h R Rp:=by
 intro K E k e
 unfold lB
 simp only[hm]
 exact az M c QB f1 f2 k e
theorem CV.ret {g:Nat} {X Y:Array Value} {vs:List Value} {h:ab} {R Rp:Value->ab->Prop} (M:List Nat) (hp:mem qS g=false) (hm:mem qR g=true) (c:QH g (X.toList++(vs++Y.toList)).toArray h R) (f1:∀v h',R v h'->Fr M h h'):CV (.func g) X Y vs h R Rp:=by
 intro K E k e
 unfold lB
 simp only[hp,hm]
 exact ao M c QB f1 k
section
variable (gl:GL) (b:Nat) (s:ByteArray) (mo:Option Nat) (fs:Fs) (ms:Ms) (I:G.Xs->Prop)
def jD (P:G.Xs->Prop) (F:Fn) (X Y:Array Value) (f:G.Kd):Prop:=
 ∀(x:G.Xs) (A:XA) (tg:G.Tg) (t:Nat) (TA:QR) (TC:Nat) (h:ab),Hp h (chX gl b s mo fs ms A x++tK t TA TC tg)->P x->tg.list.length<=262144->f tg x≠ .un->
  CV F X Y [ptr t] h (fun v h'=>∃x' A',f tg x= .ok x'/\v= .tuple #[]/\Sq h (chX gl b s mo fs ms A x++tK t TA TC tg) h' (chX gl b s mo fs ms A' x')/\I x'/\x.2.i<=x'.2.i)
   (fun v h'=>∃e,f tg x= .no e/\v=flx e/\Fr (aF (chX gl b s mo fs ms A x++tK t TA TC tg)) h h')
def qH (F:Fn) (X Y:Array Value) (m:G.My):Prop:=
 ∀(nm:ByteArray) (a:Nat) (x:G.Xs) (A:XA) (h:ab),Hp h (chX gl b s mo fs ms A x)->I x->m nm a x≠ .un->
  CV F X Y [.string nm,QM (a:Int)] h
   (fun v h'=>(v= .nilFunc/\m nm a x= .no (a,16)/\h'=h)\/∃F' X' Y' f x' A' P,v= .func F' X' Y'/\m nm a x= .ok (x',f)/\Sq h (chX gl b s mo fs ms A x) h' (chX gl b s mo fs ms A' x')/\I x'/\x'.2.i=x.2.i/\(P x'/\∀x j,P x->j<=s.size->P (x.at j))/\jD gl b s mo fs ms I P F' X' Y' f)
   (fun v h'=>∃e,m nm a x= .no e/\v=flx e/\Fr (aF (chX gl b s mo fs ms A x)) h h')
structure LvI :Prop where
 at_:∀x j,I x->j<=s.size->I (x.at j)
 le:∀x,I x->x.2.i<=s.size
end
section
variable {gl:GL} {b:Nat} {s:ByteArray} {mo:Option Nat} {fs:Fs} {ms:Ms} {I:G.Xs->Prop}
theorem yU {A:XA} {x:G.Xs} {rest:List Ck} {y:Nat} (h:y∈[b]):y∈aF (chX gl b s mo fs ms A x++rest):=by
 simp only[List.mem_singleton]at h
 subst h
 exact dm.2 ⟨0,_,rfl,by simp[Ck.ob]⟩
theorem Sq.mvX {h0 h h':ab} {C rest:List Ck} {A:XA} {x:G.Xs} {j:Nat} (q:Sq h0 C h (chX gl b s mo fs ms A x++rest)) (m:Mv b h h' j):Sq h0 C h' (chX gl b s mo fs ms A (x.at j)++rest):=
 ⟨q.sy.mv 0 rfl m,q.ri⟩
theorem JM (hs:s.size<=262144) (lv:LvI s I) {mF:Fn} {mX mY:Array Value} {m:G.My} (mc:qH gl b s mo fs ms I mF mX mY m) {x:G.Xs} {A:XA} {h:ab} (H:Hp h (chX gl b s mo fs ms A x)) (ix:I x) (h1:1<=x.2.i) (hu:G.elem s m x≠ .un):
  QJ 37 #[ptr b,.func mF mX mY] h (fun v h'=>∃x' A',G.elem s m x= .ok x'/\v= .tuple #[]/\Sq h (chX gl b s mo fs ms A x) h' (chX gl b s mo fs ms A' x')/\I x'/\x.2.i<x'.2.i)
   (fun v h'=>∃e,G.elem s m x= .no e/\v=flx e/\Fr (aF (chX gl b s mo fs ms A x)) h h'):=by
 generalize hC:chX gl b s mo fs ms A x=C at H ⊢
 have Q0:Sq h C h (chX gl b s mo fs ms A x):=by rw[hC];exact Sq.start H
 have bi:=lv.le x ix
 have L0:Lx h b s x.2.i:=Q0.sy.lx 0 rfl
 apply GP
 unfold S37
 have ew:i64.wrap ((x.2.i:Int)-(1:Int))=((x.2.i-1:Nat):Int):=by rw[wr Qz Qz];omega
 refine⟨b,0,rfl,_,L0.c1,b,0,rfl,_,L0.c1,?_⟩
 rw[ew]
 intro hv
 have Q1:Sq h C hv (chX gl b s mo fs ms A x++[Ck.ob h.size 111 (tgC none 0 ByteArray.empty (x.2.i-1) x.2.i [] false)]):=Q0.add1 (Q0.sy.newO _) rfl
 have Q2:Sq h C hv (chX gl b s mo fs ms A x++tK h.size none 0 ⟨ByteArray.empty,x.2.i-1,x.2.i,[],false⟩):=Q1.add1 (Q1.sy.nilS eA 142) rfl
 have f0:Fr [] h hv:=Fr.push h _
 clear_value hv
 clear Q1
 refine⟨f0,b,0,rfl,?_⟩
 refine az [b] (JQ (Q2.sy.lx 0 rfl) bi hs) QB (fun _ _ r=>by obtain⟨_,_,_,_,_,_,m⟩:=r;exact m.fr) (fun _ _ r=>Fr.of_eq r.2.2) (fun v hv2 r=>?_) fun v hv2 r=>?_
 rotate_left
 ·obtain⟨e,rfl,rfl⟩:=r
  exact⟨_,by unfold G.elem;rw[e];rfl,rfl,Q2.fr⟩
 obtain⟨nm,j,e1,j1,j2,rfl,M1⟩:=r
 have eE:G.elem s m x=(m nm x.2.i (x.at j)).bind fun(x1,read)=>(G.bw s (s.size+1) [] x1.2.i).bind fun(l,w,k)=>read ⟨nm,x.2.i-1,x.2.i,l,w⟩ (x1.at k):=by
  unfold G.elem;rw[e1];rfl
 have Q3:=Sq.mvX Q2 M1
 refine⟨nm,rfl,⟨_,Q3.sy.cellO 9 rfl 0 rfl⟩,Q3.sy.freeO 9 rfl 0,?_⟩
 intro hv3
 have Q4:Sq h C hv3 (chX gl b s mo fs ms A (x.at j)++tK h.size none 0 ⟨nm,x.2.i-1,x.2.i,[],false⟩):=⟨Q3.sy.stO 9 rfl 0 (.string nm),Q3.ri⟩
 clear_value hv3
 clear Q3 Q2
 refine⟨aF (chX gl b s mo fs ms A (x.at j)),QB,_,Q4.sy.cellO 9 rfl 0 rfl,_,Q4.sy.cellO 9 rfl 2 rfl,?_⟩
 have HA:Hp hv3 (chX gl b s mo fs ms A (x.at j)):=(Q4.pick [0,1,2,3,4,5,6,7,8] rfl).hp
 have hun:m nm x.2.i (x.at j)≠ .un:=by
  intro q
  rw[eE,q]at hu
  exact hu rfl
 refine mc nm x.2.i (x.at j) A hv3 HA (lv.at_ x j ix j2) hun _ _ (fun v hv4 r=>?_) (fun v hv4 r=>?_)
 rotate_left
 ·obtain⟨e,q1,rfl,q2⟩:=r
  exact⟨e,by rw[eE,q1];rfl,rfl,Sq.frA Q4 q2⟩
 rcases r with⟨rfl,q1,rfl⟩ | ⟨F,X,Y,f,x1,A1,PP,rfl,q1,P,i1,p1,pp,kc⟩
 ·refine .inl ⟨rfl,Fr.refl _ _,_,Q4.sy.cellO 9 rfl 2 rfl,aq (fun z=>absurd z QA) fun _=>⟨_,by rw[eE,q1];rfl,rfl,Q4.fr⟩⟩
 ·rw[q1]at eE
  simp only[G.Er.bind]at eE
  have Q5:Sq h C hv4 (chX gl b s mo fs ms A1 x1++tK h.size none 0 ⟨nm,x.2.i-1,x.2.i,[],false⟩):=Sq.call Q4 P
  refine .inr ⟨F,X,Y,rfl,P.fr,_,Q5.sy.cellO 9 rfl 2 rfl,aq (fun _=>⟨rfl,b,0,rfl,?_⟩) fun z=>absurd z QA⟩
  have b1:=lv.le x1 i1
  have Q5p:Sq h C hv4 (atC b 63 s x1.2.i ((rx s A1 x1.2).drop 2) h.size none 0 nm (x.2.i-1) x.2.i [] false++[Ck.mp A1.mK (iC x1.2.keys),Ck.mp A1.mN (nB x1.2.ids),Ck.sl eS 9 A1.aL x1.2.labels.length A1.cL x1.2.labels,Ck.sl eFF 68 A1.aS x1.2.spots.length A1.cS x1.2.spots,Ck.sl eF 66 A1.aW x1.2.weights.length A1.cW x1.2.weights,
    Ck.sl eN 114 A1.aE x1.2.ends.length A1.cE x1.2.ends,Ck.glob gl,Ck.fy (mo.map fun m=>(m,x1.1)) fs ms]):=Q5.pick [0,9,10,1,2,3,4,5,6,7,8] rfl
  have hun2:G.bw s (s.size+1) [] x1.2.i≠ .un:=by
   intro q
   rw[eE,q]at hu
   exact hu rfl
  refine az _ (P0 (Q5p.pick [0,1,2] rfl).hp b1 QB hs hun2) QB (fun _ _ r=>by obtain⟨_,_,_,_,_,_,_,_,_,_,m⟩:=r;exact m.fr) (fun _ _ r=>by obtain⟨_,_,_,m⟩:=r;exact m) (fun v hv6 r=>?_) fun v hv6 r=>?_
  rotate_left
  ·obtain⟨e,q2,rfl,q3⟩:=r
   exact⟨e,by rw[eE,q2],rfl,Sq.frA Q5p q3⟩
  obtain⟨l,w,k,TA,TC,q2,k1,k2,k3,rfl,P2⟩:=r
  rw[q2]at eE
  simp only[G.Er.bind]at eE
  have Q6p:=Sq.call Q5p P2
  have Q6:Sq h C hv6 (chX gl b s mo fs ms A1 (x1.at k)++tK h.size TA TC ⟨nm,x.2.i-1,x.2.i,l,w⟩):=Q6p.pick [0,3,4,5,6,7,8,9,10,1,2] rfl
  refine⟨rfl,?_⟩
  have hun3:f ⟨nm,x.2.i-1,x.2.i,l,w⟩ (x1.at k)≠ .un:=by
   intro q
   rw[eE,q]at hu
   exact hu rfl
  refine kc (x1.at k) A1 ⟨nm,x.2.i-1,x.2.i,l,w⟩ h.size TA TC hv6 Q6.hp (pp.2 x1 k pp.1 k2) (by show l.length<=_;omega) hun3 _ _ (fun v hv9 r=>?_) (fun v hv9 r=>?_)
  ·obtain⟨x',A',q3,rfl,P3,i3,p3⟩:=r
   refine⟨rfl,x',A',by rw[eE,q3],rfl,Sq.callT Q6 P3,i3,?_⟩
   have e2:(x.at j).2.i=j:=rfl
   have e3:(x1.at k).2.i=k:=rfl
   omega
  ·obtain⟨e,q3,rfl,f3⟩:=r
   exact⟨e,by rw[eE,q3],rfl,Sq.frT Q6 f3⟩
theorem Gg (hs:s.size<=262144) (lv:LvI s I) {mF:Fn} {mX mY:Array Value} {m:G.My} (mc:qH gl b s mo fs ms I mF mX mY m) {x:G.Xs} {A:XA} {h:ab} {tg:G.Tg} {t:Nat} {TA:QR} {TC:Nat} (H:Hp h (chX gl b s mo fs ms A x++[Ck.vob t 0 (tgC TA TC tg.name tg.at_ tg.nameAt tg.list tg.whole)])) (ix:I x)
  (hu:G.within s (G.elem s m) tg x≠ .un):
  QJ 40 #[ptr b,ptr t,.func mF mX mY] h (fun v h'=>∃x' A',G.within s (G.elem s m) tg x= .ok x'/\v= .tuple #[]/\Sq h (chX gl b s mo fs ms A x++[Ck.vob t 0 (tgC TA TC tg.name tg.at_ tg.nameAt tg.list tg.whole)]) h' (chX gl b s mo fs ms A' x')/\I x'/\x.2.i<=x'.2.i)
   (fun v h'=>∃e,G.within s (G.elem s m) tg x= .no e/\v=flx e/\Fr (aF (chX gl b s mo fs ms A x++[Ck.vob t 0 (tgC TA TC tg.name tg.at_ tg.nameAt tg.list tg.whole)])) h h'):=by
 generalize hC:chX gl b s mo fs ms A x++[Ck.vob t 0 (tgC TA TC tg.name tg.at_ tg.nameAt tg.list tg.whole)]=C at H ⊢
 have Q0:Sq h C h (chX gl b s mo fs ms A x++[Ck.vob t 0 (tgC TA TC tg.name tg.at_ tg.nameAt tg.list tg.whole)]):=by rw[hC];exact Sq.start H
 apply GO
 unfold S40
 refine⟨t,0,rfl,_,Q0.sy.cellW 9 rfl 4 rfl,cd (fun q=>?_) fun q=>?_⟩
 ·exact⟨x,A,by unfold G.within;rw[if_pos q],rfl,Q0.pick [0,1,2,3,4,5,6,7,8] rfl,ix,Nat.le_refl _⟩
 have eW:G.within s (G.elem s m) tg x=G.inX s (G.elem s m) tg.name (s.size+1) x:=by unfold G.within;rw[if_neg (by rw[q];decide)]
 refine⟨fun _ h'=>∃n' x1 A1,G.within s (G.elem s m) tg x=G.inX s (G.elem s m) tg.name n' x1/\I x1/\x.2.i<=x1.2.i/\Sq h C h' (chX gl b s mo fs ms A1 x1++[Ck.vob t 0 (tgC TA TC tg.name tg.at_ tg.nameAt tg.list tg.whole)]),vW s b,⟨_,x,A,eW,ix,Nat.le_refl _,Q0⟩,?_⟩
 rintro hv ⟨n',x1,A1,eL,i1,p1,Q⟩
 cases n' with
 | zero=>exact absurd (eL.trans rfl) hu
 | succ k=>
 rw[G.inX]at eL
 have b1:=lv.le x1 i1
 have L1:Lx hv b s x1.2.i:=Q.sy.lx 0 rfl
 have hb:b∉glB gl:=(Q.hp.ap 0 7 _ _ QA rfl rfl b (by simp[Ck.ob])).2
 have hun:G.dS s (s.size+1) x1.2.i≠ .un:=by
  intro z
  rw[eL,z]at hu
  exact hu rfl
 have c93:=JD L1 (Q.sy.glo 7 rfl) hb b1 hs hun
 intro K
 have fb:∀{h'},Fr [b] hv h'->Fr (aF C) h h':=fun f=>Sq.frT Q (f.mono fun y hy=>yU hy)
 have kk:∀(hv2:ab) (o:Option Nat) (j:Nat),G.dS s (s.size+1) x1.2.i= .ok o->j<=s.size->(∀k,o=some k->j=k/\x1.2.i<j)->Mv b hv hv2 j->o.isSome=true->K hv2:=by
  intro hv2 o j e1 j2 j3 M ho
  obtain⟨i2,rfl⟩:=Option.isSome_iff_exists.1 ho
  obtain⟨rfl,j4⟩:=j3 i2 rfl
  rw[e1]at eL
  simp only[G.Er.bind]at eL
  have Q1:=Sq.mvX Q M
  have L2:Lx hv2 b s j:=Q1.sy.lx 0 rfl
  refine⟨b,0,rfl,bV (yV (c:=47) L2 QA) ⟨_,rfl,af (fun q2=>?_) fun q2=>?_⟩⟩
  ·rw[if_pos q2]at eL
   refine⟨[b],QB,b,0,rfl,t,0,rfl,_,Q1.sy.cellW 9 rfl 0 rfl,?_⟩
   refine az [b] (MX L2 j2 hs) QB (fun _ _ r=>by obtain⟨_,_,_,_,_,m⟩:=r;exact m.fr) (fun _ _ r=>by obtain⟨_,_,_,m⟩:=r;exact m) (fun v hv5 r=>?_) fun v hv5 r=>?_
   ·obtain⟨j5,e5,j6,j7,rfl,M5⟩:=r
    rw[e5]at eL
    have Q5:=Sq.mvX Q1 M5
    exact⟨rfl,M5.fr,x1.at j5,A1,eL,rfl,Q5.pick [0,1,2,3,4,5,6,7,8] rfl,lv.at_ _ _ i1 j7,by show x.2.i<=j5;omega⟩
   ·obtain⟨e,q3,rfl,f3⟩:=r
    rw[q3]at eL
    exact⟨e,eL,rfl,Sq.frT Q1 (f3.mono fun y hy=>yU hy)⟩
  ·rw[if_neg q2]at eL
   have hun2:G.elem s m (x1.at j)≠ .un:=by
    intro z
    rw[eL,z]at hu
    exact hu rfl
   refine az _ (JM hs lv mc (x:=x1.at j) (A:=A1) (Q1.pick [0,1,2,3,4,5,6,7,8] rfl).hp (lv.at_ _ _ i1 j2) (by show 1<=j;omega) hun2) QB (fun _ _ r=>by obtain⟨_,_,_,_,m,_⟩:=r;exact m.fr) (fun _ _ r=>by obtain⟨_,_,_,m⟩:=r;exact m) (fun v hv6 r=>?_) fun v hv6 r=>?_
   ·obtain⟨x2,A2,e5,rfl,P,i2,p2⟩:=r
    rw[e5]at eL
    have Q6:Sq h C hv6 (chX gl b s mo fs ms A2 x2++[Ck.vob t 0 (tgC TA TC tg.name tg.at_ tg.nameAt tg.list tg.whole)]):=Sq.call Q1 P
    have p2:j<x2.2.i:=p2
    refine⟨rfl,⟨k,x2,A2,eL,i2,Qz,Q6⟩,?_⟩
    have:=lv.le x2 i2
    rw[eZ (Q6.sy.lx 0 rfl:Lx hv6 b s x2.2.i),eZ L1]
    omega
   ·obtain⟨e,q3,rfl,f3⟩:=r
    rw[q3]at eL
    exact⟨e,eL,rfl,Sq.frA Q1 f3⟩
 have bad:∀(hv2:ab) (o:Option Nat),G.dS s (s.size+1) x1.2.i= .ok o->Fr [b] hv hv2->o.isSome=false->∃e,G.within s (G.elem s m) tg x= .no e/\flx (s.size,15)=flx e/\Fr (aF C) h hv2:=by
  intro hv2 o e1 f ho
  cases o with
  | some _=>cases ho
  | none=>
   rw[e1]at eL
   exact⟨_,eL,rfl,fb f⟩
 have f1:∀(v:Value) (h':ab),(∃o j,G.dS s (s.size+1) x1.2.i= .ok o/\v= .bool o.isSome/\x1.2.i<=j/\j<=s.size/\(∀k,o=some k->j=k/\x1.2.i<j)/\(o=none->j=s.size)/\Mv b hv h' j)->Fr [b] hv h':=fun v h' r=>by obtain⟨_,_,_,_,_,_,_,_,m⟩:=r;exact m.fr
 have f2:∀(v:Value) (h':ab),(∃f,G.dS s (s.size+1) x1.2.i= .no f/\v=flx f/\Fr [b] hv h')->Fr [b] hv h':=fun v h' r=>by obtain⟨_,_,_,m⟩:=r;exact m
 have er:∀(v:Value) (h':ab),(∃f,G.dS s (s.size+1) x1.2.i= .no f/\v=flx f/\Fr [b] hv h')->∃e,G.within s (G.elem s m) tg x= .no e/\v=flx e/\Fr (aF C) h h':=fun v h' r=>by
  obtain⟨f,q1,rfl,q2⟩:=r
  rw[q1]at eL
  exact⟨f,eL,rfl,fb q2⟩
 refine⟨[b],QB,b,0,rfl,b,0,rfl,?_,?_⟩
 ·refine az [b] c93 QB f1 f2 (fun v hv2 r=>?_) er
  obtain⟨o,j,e1,rfl,j1,j2,j3,j4,M⟩:=r
  exact⟨_,rfl,M.fr,_,(L1.mv M).c0,M.fr,aq (fun z=>⟨rfl,M.fr,kk _ o j e1 j2 j3 M z⟩) fun z=>bad _ o e1 M.fr z⟩
 ·refine⟨_,L1.c0,Fr.refl _ _,az [b] c93 QB f1 f2 (fun v hv2 r=>?_) er⟩
  obtain⟨o,j,e1,rfl,j1,j2,j3,j4,M⟩:=r
  exact⟨_,rfl,M.fr,aq (fun z=>⟨rfl,M.fr,kk _ o j e1 j2 j3 M z⟩) fun z=>bad _ o e1 M.fr z⟩
end
end Go.Proofs.YtemphinmoihdaaaGreatDoor.N
namespace Go.X
theorem Sq.turn {h0 h:ab} {C cs:List Ck} {c c':Ck} (q:Sq h0 C h cs) (k:Nat) (hk:cs[k]? =some c) (t:To c c'):Sq h0 C h (cs.set k c'):=by
 refine⟨q.sy.turn k hk t,fun x hx=>?_⟩
 obtain⟨i,d,h1,h2⟩:=bR.1 hx
 rw[List.getElem?_set]at h1
 split at h1
 ·rename_i e
  subst e
  split at h1
  ·cases h1
   rcases t.2.2 x h2 with w | w
   ·exact(q.sy.ow k c hk x w).elim (fun w=>.inr (.inl w)) fun w=>.inr (.inr w)
   ·exact q.ri x (bR.2 ⟨k,c,hk,w⟩)
  ·cases h1
 ·exact q.ri x (bR.2 ⟨i,d,h1,h2⟩)
theorem qI {h0 h:ab} {M:List Nat} {cs:List Ck} {c:Ck} (Y:Sy h0 M h cs) (k:Nat) (hk:cs[k]? =some c) (b:Nat) (hb:b∈c.own):b<h.size:=(c.lt h (Y.hp.ok k c hk)).1 b hb
end Go.X
namespace Go.Proofs.YtemphinmoihdaaaGreatDoor.N
open Go.Proofs.YtemphinmoihdaaaGreatDoor
open Go.X
set_option maxRecDepth 100000
theorem CV.mono {F:Fn} {X Y:Array Value} {vs:List Value} {h:ab} {R Rp R' Rp':Value->ab->Prop} (c:CV F X Y vs h R Rp) (k:∀v h',R v h'->R' v h') (e:∀v h',Rp v h'->Rp' v h'):CV F X Y vs h R' Rp':=
 fun K E k2 e2=>c K E (fun v h' r=>k2 v h' (k v h' r)) fun v h' r=>e2 v h' (e v h' r)
structure RX (s:ByteArray) (σ:G.Xd):Prop where
 i:σ.i<=s.size
 n:σ.n<=1024
 l:σ.labels.length=σ.n
 p:σ.spots.length=σ.n
 dn:(σ.ids.map fun p=>p.1.data.toList).Nodup
 dv:∀p∈σ.ids,p.2<σ.n
 w:σ.weights.length<=3072
 e:σ.ends.length=2*σ.weights.length
 kn:(σ.keys.map fun k=>k.1.data.toList).Nodup
def IX (s:ByteArray) (x:G.Xs):Prop:=RX s x.2
theorem RX.at {s:ByteArray} {σ:G.Xd} (r:RX s σ) {j:Nat} (hj:j<=s.size):RX s {σ with i:=j}:=⟨hj,r.n,r.l,r.p,r.dn,r.dv,r.w,r.e,r.kn⟩
theorem lvX (s:ByteArray):LvI s (IX s):=⟨fun x j r hj=>RX.at r hj,fun x r=>r.i⟩
section
variable {gl:GL} {b:Nat} {s:ByteArray} {mo:Option Nat} {fs:Fs} {ms:Ms} {I:G.Xs->Prop} {rd:ByteArray->Option (Nat × Nat)} {cl:Nat->Nat}
theorem JN :qH gl b s mo fs ms I (.func 87) #[] #[] G.kP:=by
 intro nm a x A h H ix hu
 refine(CV.ret [] QC QC (R:=fun v h'=>v= .nilFunc/\h'=h) ?_ (fun _ _ r=>Fr.of_eq r.2)).mono (fun v h' r=>.inl ⟨r.1,rfl,r.2⟩) (fun _ _ r=>r)
 show QH 87 #[.string nm,QM (a:Int)] h _
 apply GU
 unfold S87
 exact⟨rfl,rfl⟩
theorem ME :qH gl b s mo fs ms I (.func 42) #[] #[] G.kP:=by
 intro nm a x A h H ix hu
 refine(CV.ret [] QC QC (R:=fun v h'=>v= .nilFunc/\h'=h) ?_ (fun _ _ r=>Fr.of_eq r.2)).mono (fun v h' r=>.inl ⟨r.1,rfl,r.2⟩) (fun _ _ r=>r)
 show QH 42 #[.string nm,QM (a:Int)] h _
 apply GS
 unfold S42
 exact⟨rfl,rfl⟩
theorem MF (hk:jD gl b s mo fs ms (IX s) (IX s) (.func 66) #[ptr b] #[] (G.sO s)) (hg:jD gl b s mo fs ms (IX s) (IX s) (.func 67) #[ptr b] #[] (G.jU s rd cl)):qH gl b s mo fs ms (IX s) (.func 41) #[ptr b] #[] (G.aZ s rd cl):=by
 intro nm a x A h H ix hu
 have Q:Sq h (chX gl b s mo fs ms A x) h (chX gl b s mo fs ms A x):=Sq.start H
 refine CV.up (aF (chX gl b s mo fs ms A x)) QC ?_ (fun v h' r=>?_) fun v h' r=>by obtain⟨_,_,_,m⟩:=r;exact m
 ·show QJ 41 #[ptr b,.string nm,QM (a:Int)] h _ _
  apply GT
  unfold S41
  rw[jl,jl]
  have e1:(⟨#[107,101,121]⟩:ByteArray).data.toList=G.hO:=rfl
  have e2:(⟨#[103,114,97,112,104]⟩:ByteArray).data.toList=G.gw:=rfl
  rw[e1,e2]
  refine af (fun q=>?_) fun q=>af (fun q2=>?_) fun q2=>?_
  ·have eM:G.aZ s rd cl nm a x=G.bJ (decide (x.2.keys.length<64)) (a,3) (.ok (x,G.sO s)):=by unfold G.aZ;rw[if_pos q]
   refine⟨b,0,rfl,_,Q.sy.cellO 0 rfl 9 rfl,_,rfl,_,_,Q.sy.mapM 1 rfl,?_⟩
   have es:decide (((Ent (iC x.2.keys)).size:Int)<(64:Int))=decide (x.2.keys.length<64):=by
    rw[Cb]
    exact dB (by simp[iC];omega)
   rw[es]
   refine aq (fun z=>⟨rfl,.inr ⟨_,_,_,_,x,A,IX s,rfl,by rw[eM,z];rfl,Q,ix,rfl,⟨ix,(lvX s).at_⟩,hk⟩⟩) fun z=>⟨_,by rw[eM,z];rfl,rfl,Q.fr⟩
  ·have eM:G.aZ s rd cl nm a x=G.bJ (!x.2.graph) (a,18) (.ok ((x.1,{x.2 with graph:=true}),G.jU s rd cl)):=by unfold G.aZ;rw[if_neg q,if_pos q2]
   refine⟨b,0,rfl,_,Q.sy.cellO 0 rfl 8 rfl,?_⟩
   refine aq (fun z=>⟨rfl,b,0,rfl,⟨_,Q.sy.cellO 0 rfl 8 rfl⟩,Q.sy.freeO 0 rfl 8,?_⟩) fun z=>⟨_,by rw[eM,z];rfl,rfl,Q.fr⟩
   intro hv3
   have i2:IX s (x.1,{x.2 with graph:=true}):=⟨ix.i,ix.n,ix.l,ix.p,ix.dn,ix.dv,ix.w,ix.e,ix.kn⟩
   exact .inr ⟨_,_,_,_,(x.1,{x.2 with graph:=true}),A,IX s,rfl,by rw[eM,z];rfl,⟨Q.sy.stO 0 rfl 8 (.bool true),Q.ri⟩,i2,rfl,⟨i2,(lvX s).at_⟩,hg⟩
  ·refine .inl ⟨rfl,?_,rfl⟩
   unfold G.aZ;rw[if_neg q,if_neg q2]
 ·rcases r with⟨_,_,rfl⟩ | ⟨_,_,_,_,_,_,_,_,_,m,_⟩
  ·exact Fr.refl _ _
  ·exact m.fr
theorem JO {xR:Nat} (hs:s.size<=262144) (lv:LvI s I) (hm:qH gl b s mo ((xR,0,ptr b)::fs) ms I (.func 41) #[ptr b] #[] (G.aZ s rd cl)):
  jD gl b s mo ((xR,0,ptr b)::fs) ms I I (.func 39) #[] #[ptr xR] (fun t x=>G.within s (G.elem s (G.aZ s rd cl)) t x):=by
 intro x A tg t TA TC h H ix hl hu
 have Q:Sq h (chX gl b s mo ((xR,0,ptr b)::fs) ms A x++tK t TA TC tg) h (chX gl b s mo ((xR,0,ptr b)::fs) ms A x++tK t TA TC tg):=Sq.start H
 refine CV.up (aF (chX gl b s mo ((xR,0,ptr b)::fs) ms A x++tK t TA TC tg)) QC ?_ (fun v h' r=>by obtain⟨_,_,_,_,m,_⟩:=r;exact m.fr) fun v h' r=>by obtain⟨_,_,_,m⟩:=r;exact m
 show QJ 39 #[ptr t,ptr xR] h _ _
 apply GR
 unfold S39
 have cR:ac h xR 0=some (ptr b):=Q.sy.factY 8 rfl 0 rfl
 refine⟨xR,0,rfl,_,cR,xR,0,rfl,_,cR,?_⟩
 have Q2:=Q.turn 9 rfl To.obvob
 have Q3:Sq h (chX gl b s mo ((xR,0,ptr b)::fs) ms A x++tK t TA TC tg) h ((chX gl b s mo ((xR,0,ptr b)::fs) ms A x++[Ck.vob t 0 (tgC TA TC tg.name tg.at_ tg.nameAt tg.list tg.whole)])++[Ck.sl eA 142 TA tg.list.length TC tg.list]):=Q2
 refine az _ (Gg hs lv hm (tg:=tg) (TA:=TA) (TC:=TC) (Q3.pick [0,1,2,3,4,5,6,7,8,9] rfl).hp ix hu) QB (fun _ _ r=>by obtain⟨_,_,_,_,m,_⟩:=r;exact m.fr) (fun _ _ r=>by obtain⟨_,_,_,m⟩:=r;exact m) (fun v hv2 r=>?_) fun v hv2 r=>?_
 ·obtain⟨x',A',e,rfl,P,i2,p2⟩:=r
  exact⟨rfl,x',A',e,rfl,(Sq.call Q3 P).pick [0,1,2,3,4,5,6,7,8] rfl,i2,p2⟩
 ·obtain⟨e,q1,rfl,q2⟩:=r
  exact⟨e,q1,rfl,Sq.frA Q3 q2⟩
theorem MG {xR:Nat} (lv:LvI s I) (hk:jD gl b s mo ((xR,0,ptr b)::fs) ms I I (.func 39) #[] #[ptr xR] (fun t x=>G.within s (G.elem s (G.aZ s rd cl)) t x)):qH gl b s mo ((xR,0,ptr b)::fs) ms I (.func 38) #[] #[ptr xR] (G.sP s rd cl):=by
 intro nm a x A h H ix hu
 have Q:Sq h (chX gl b s mo ((xR,0,ptr b)::fs) ms A x) h (chX gl b s mo ((xR,0,ptr b)::fs) ms A x):=Sq.start H
 refine(CV.ret [] QC QC (R:=fun v h'=>h'=h/\((v= .nilFunc/\nm.data.toList≠G.cZ)\/(v= .func (.func 39) #[] #[ptr xR]/\nm.data.toList=G.cZ))) ?_ (fun _ _ r=>Fr.of_eq r.1)).mono (fun v h' r=>?_) (fun _ _ r=>r)
 ·show QH 38 #[.string nm,QM (a:Int),ptr xR] h _
  apply GQ
  unfold S38
  rw[jl]
  have e1:(⟨#[103,114,97,112,104,109,108]⟩:ByteArray).data.toList=G.cZ:=rfl
  rw[e1]
  exact af (fun q=>⟨rfl,.inr ⟨rfl,q⟩⟩) fun q=>⟨rfl,.inl ⟨rfl,q⟩⟩
 ·obtain⟨rfl,⟨rfl,q⟩ | ⟨rfl,q⟩⟩:=r
  ·exact .inl ⟨rfl,by unfold G.sP;rw[if_neg q],rfl⟩
  ·exact .inr ⟨_,_,_,_,x,A,I,rfl,by unfold G.sP;rw[if_pos q],Q,ix,rfl,⟨ix,lv.at_⟩,hk⟩
end
end Go.Proofs.YtemphinmoihdaaaGreatDoor.N
