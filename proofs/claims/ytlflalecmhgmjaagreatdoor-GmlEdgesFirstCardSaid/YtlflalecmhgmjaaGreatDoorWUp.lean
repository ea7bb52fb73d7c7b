/- tracerylaw30.GmlEdgesFirst is true. Conditions: none. -/
import Derived.Test.YtlflalecmhgmjaaGreatDoorTEdg
import Derived.Test.YtlflalecmhgmjaaGreatDoorGFirst
import Derived.Test.YtlflalecmhgmjaaGreatDoorRows
import Derived.Test.YtlflalecmhgmjaaGreatDoorYGl
import Derived.WalkKit
import Derived.ProofKit
import Derived.OpenShut
import Derived.Lib.LaidU8
import Derived.MakeChecks
import Derived.Lay
import Derived.Shelf.Vars
import Derived.Handed
import Derived.Below
import Derived.Deep.Slices
import Derived.ChangeOld
import Derived.Carry
import Derived.JoinedCond
import Derived.Deep.DeepHandedRow
set_option linter.unusedVariables false
set_option linter.unusedSimpArgs false
namespace Go.Proofs.YtlflalecmhgmjaaGreatDoor.N
open Go.Proofs.YtlflalecmhgmjaaGreatDoor
open Go.X
open Go.Proofs
set_option maxRecDepth 100000
theorem strOf_l (xs:List Int):(strOf xs).data.toList=xs.map fun n=>UInt8.ofNat n.toNat:=by
 have gen:∀(xs:List Int) (b:ByteArray),(xs.foldl (fun r n=>r.push (UInt8.ofNat n.toNat)) b).data.toList=b.data.toList++xs.map fun n=>UInt8.ofNat n.toNat:=by
  intro xs
  induction xs with
  | nil=>intro b;simp
  | cons x xs ih=>intro b;rw[List.foldl_cons,ih];simp[ByteArray.push]
 have:=gen xs ByteArray.empty
 unfold strOf
 rw[this];rfl
theorem strOf_bI (l:List UInt8):strOf (bI l)=G.mkB l:=by
 apply ByteArray.ext;apply Array.ext'
 rw[strOf_l,mkBl,bI,List.map_map]
 conv=>rhs;rw[<-List.map_id l]
 apply List.map_congr_left
 intro x _
 simp
theorem dig1 {n:Nat}:(strOf [IntKind.u8.wrap (IntKind.i64.wrap (48+((n % 10:Nat):Int)))]).data.toList=[G.dg n]:=by
 rw[strOf_l]
 have h:n % 10<10:=Nat.mod_lt _ (by decide)
 rw[wr (by omega) (by omega),u8w (by omega) (by omega)]
 show [UInt8.ofNat (48+((n % 10:Nat):Int)).toNat]=[UInt8.ofNat (48+n % 10)]
 congr 2
theorem ok38' :∀(n:Nat),n<=1000000000000->∀{R:ByteArray->Prop},(∀s:ByteArray,s.data.toList=G.dec n->R s)->Ok38 (n:Int) R:=by
 intro n
 induction n using Nat.strongRecOn with
 | _ n ih=>
  intro hn R r
  apply ok38
  unfold T38
  refine cnd_dec (fun h=>?_) fun h=>?_
  ·have e:(n:Int)=((n % 10:Nat):Int):=by omega
   refine r _ ?_
   rw[e,dig1,G.dec,if_pos (by omega)]
  ·refine ⟨fun x=>x.data.toList=G.dec n,⟨by decide,by decide,?_⟩,fun x hx=>r x hx⟩
   have e1:IntKind.i64.wrap (Int.tdiv (n:Int) 10)=((n/10:Nat):Int):=by
    have:Int.tdiv (n:Int) 10=((n/10:Nat):Int):=by rw[Int.tdiv_eq_ediv_of_nonneg (by omega)];omega
    rw[this,wr (by omega) (by omega)]
   have e2:Int.tmod (n:Int) 10=((n % 10:Nat):Int):=rfl
   rw[e1,e2]
   refine ih (n/10) (by omega) (by omega) fun s hs=>⟨?_,?_⟩
   ·have h1:s.size=(G.dec (n/10)).length:=by rw[<-hs];rfl
    have h2:(strOf [IntKind.u8.wrap (IntKind.i64.wrap (48+((n % 10:Nat):Int)))]).size=1:=by
     show(strOf [IntKind.u8.wrap (IntKind.i64.wrap (48+((n % 10:Nat):Int)))]).data.toList.length=1
     rw[dig1];rfl
    have:=G.dec_len 12 (n/10) (by omega)
    rw[h1,h2];omega
   ·show (s++strOf [IntKind.u8.wrap (IntKind.i64.wrap (48+((n % 10:Nat):Int)))]).data.toList=G.dec n
    rw[ByteArray.data_append,Array.toList_append,hs,dig1,G.dec.eq_def n,if_neg (show ¬n<10 by omega)]
def fid (k:Int) (up:Bool) (v:Nat):Int:=if up=true then k+7*v else k-7*v
theorem ok34' {k:Int} {up:Bool} {v:Nat} (hk:k<=1073741824/\ -1073741824<=k) (hv:v<=1000) {R:ByteArray->Prop} (r:∀s:ByteArray,s.data.toList=G.idt (fid k up v)->R s):Ok34 k up (v:Int) R:=by
 apply ok34
 unfold T34
 refine⟨fun n=>n=fid k up v,cnd_b (fun h=>?_) fun h=>?_,?_⟩
 ·unfold fid;rw[if_pos h,wr (x:=7*(v:Int)) (by omega) (by omega),wr (by omega) (by omega)]
 ·unfold fid;rw[if_neg (by rw[h];decide),wr (x:=7*(v:Int)) (by omega) (by omega),wr (by omega) (by omega)]
 rintro n rfl
 have hb: -1073800000<=fid k up v/\fid k up v<=1073800000:=by unfold fid;split<;>omega
 generalize fid k up v=n at*
 refine cnd_dec (fun h=>?_) fun h=>?_
 ·have e:IntKind.i64.wrap (0-n)=((n.natAbs:Nat):Int):=by rw[wr (by omega) (by omega)];omega
  rw[e]
  refine ok38' _ (by omega) fun s hs=>⟨?_,r _ ?_⟩
  ·have h1:s.size=(G.dec n.natAbs).length:=by rw[<-hs];rfl
   have:=G.dec_len 12 n.natAbs (by omega)
   rw[h1];show((1+_:Nat):Int)<=_;omega
  ·rw [ByteArray.data_append,Array.toList_append,hs]
   unfold G.idt;rw[if_pos h];rfl
 ·have e:n=((n.natAbs:Nat):Int):=by omega
  rw[e]
  refine ok38' _ (by omega) fun s hs=>r _ ?_
  rw[hs]
  unfold G.idt;rw[if_neg (by omega)]
theorem ok35' {a b:Int} {xs ys:Es} (hx:xs.length<=9223372036854775807) {R:Bool->Prop} (r:R (decide (a=b)&&decide (xs=ys))):Ok35 a xs b ys R:=by
 apply ok35
 unfold T35
 refine cnd_ne (fun h=>?_) fun h=>?_
 ·rw [decide_eq_false h,Bool.false_and]at r;exact r
 rw[decide_eq_true h,Bool.true_and,<-eqL_eq]at r
 refine cnd_ne (fun h=>?_) fun h=>?_
 ·rw [eqL_len (by omega)]at r;exact r
 refine⟨fun i=>∃k:Nat,i=k/\k<=xs.length/\((xs.zip ys).take k).all (fun p=>decide (p.1=p.2))=true,fun i=>((xs.length:Int)-i).toNat,⟨0,rfl,by omega,by simp⟩,?_⟩
 rintro _ ⟨k,rfl,hk,ha⟩
 refine cnd_dec (fun hlt=>⟨by omega,hlt,fun x hx=>⟨by omega,by omega,fun y hy=>?_⟩⟩) fun hlt=>?_
 ·have hx:xs[k]? =some x:=by simpa using hx
  have hy:ys[k]? =some y:=by simpa using hy
  have e:((x.1==y.1)&&(x.2==y.2))=decide (x=y):=by
   rw[Bool.eq_iff_iff];simp[Prod.ext_iff]
  rw[e]
  refine cnd_not (fun q=>?_) fun q=>?_
  ·rw [eqL_no (f:=fun x y=>decide (x=y)) hx hy q]at r;exact r
  ·rw [wr (by omega) (by omega)]
   exact⟨⟨k+1,by simp,by omega,eqL_step (f:=fun x y=>decide (x=y)) hx hy q ha⟩,by dsimp only;omega⟩
 ·rw [eqL_yes (f:=fun x y=>decide (x=y)) (by omega) (show xs.length<=k by omega) ha]at r;exact r
section
variable {h0 h:Heap} {C B:List Ck} {H:List Nat} {A:Option Addr} {n c:Nat} {l:List UInt8}
theorem appT {s:ByteArray} {K:Option Addr->Nat->Heap->Prop} (Q:Sq h0 C h ([Ck.sl (eK .u8) 5 A n c (bI l)]++B)) (hd:Hd H B) (hn:n+s.size<=100000000)
  (R:∀sA sC h',Sq h0 C h' ([Ck.sl (eK .u8) 5 sA (n+s.size) sC (bI (l++s.data.toList))]++B)->Fr (blkOf A) h h'->K sA sC h'):
  ∃old,Ownd h 5 1 A n c old/\(∀b∈H,b∉blkOf A)/\(n+s.size)*1<=140737488355328/\(n+s.size)<=maxLen/\
   ∀sA sC h',Ownd h' 5 1 sA (n+s.size) sC (old++Lib.strCells s)->Fr (blkOf A) h h'->((sA=A/\sC=c)\/∃g,sA=some ⟨g,0,none⟩/\h.size<=g)->(c<(n+s.size)->Fr [] h h')->K sA sC h':=by
 have Y:=Q.sy
 refine⟨(eK .u8).l (bI l),Y.ownS 0 rfl,fun x hx=>?_,by omega,by unfold maxLen;omega,fun sA sC h' ow f g _=>?_⟩
 ·have:=(hd.apart Q x hx).2
  simpa[owns,Ck.sl]using this
 have e:Lib.strCells s=(eK .u8).l (bI s.data.toList):=(bytesL_l s).symm
 rw[e]at ow
 have Y1:=Y.appS 0 rfl (bI s.data.toList) ow f g rfl (by rw[bI_len];rfl)
 refine R sA sC h' ⟨?_,fun x hx=>Q.ri x (by simpa[rds,Ck.sl]using hx)⟩ f
 rw[bI_app];exact Y1
theorem Sq.mark {a:Nat} (Q:Sq h0 C h ([Ck.sl (eK .u8) 5 (some ⟨a,0,none⟩) n c (bI l)]++B)):Sq h0 C (hmark h a) ([Ck.sl (eK .u8) 5 (some ⟨a,0,none⟩) n c (bI l)]++B):=by
 obtain⟨ow,ln⟩:Ownd h 5 1 (some ⟨a,0,none⟩) n c ((eK .u8).l (bI l))/\_:=Q.sy.ok (k:=0) rfl
 have f:=hmark_fr h a
 refine⟨Q.sy.mut (k:=0) (c:=Ck.sl (eK .u8) 5 (some ⟨a,0,none⟩) n c (bI l)) rfl (Ck.sl (eK .u8) 5 (some ⟨a,0,none⟩) n c (bI l)) f.size (fun b hb hn=>f.blk b hb (by simpa[Ck.sl,blkOf]using hn)) ⟨⟨ow.1,?_⟩,ln⟩ (fun b hb=>.inl hb) (fun b hb=>by simp[Ck.sl]at hb),fun x hx=>Q.ri x (by simpa[rds,Ck.sl]using hx)⟩
 rcases ow.2 with q | ⟨g,cur,q1,q2,q3⟩
 ·exact .inl q
 ·obtain rfl:a=g:=by simpa using q1
  exact .inr ⟨a,cur,rfl,q2.mark,q3⟩
end
def bB (gl:GL) (gA:Option Addr) (gL gC:Nat) (es:Es) (j1 j2:Nat):List Ck:=[Ck.glob gl,Ck.vw eP gA gL gC es,Ck.junk j1,Ck.junk j2]
def sT (A:Option Addr) (n c:Nat) (l:List UInt8):List Ck:=[Ck.sl (eK .u8) 5 A n c (bI l)]
section
variable {gl:GL} {h:Heap} {gA:Option Addr} {gL gC:Nat} {es:Es} {g k:Int} {up:Bool}
set_option maxHeartbeats 2000000 in
theorem okEdgesFirst (Hm:Hp h [Ck.glob gl,Ck.vw eP gA gL gC es]) (hes:es.length<=9223372036854775807):CallsH Tryz.prog 11 #[.agg #[.int .i64 g,.slice gA gL gC],.int .i32 k,.bool up] h fun v h'=>v= .bool true/\Fr [] h h':=by
 apply calls11
 unfold S11
 intro h1
 have Q1:Sq h [Ck.glob gl,Ck.vw eP gA gL gC es] h1 [Ck.glob gl,Ck.vw eP gA gL gC es,Ck.junk h.size]:=⟨(Sy.start Hm).junk _,fun x hx=>.inl (by simpa[rds,Ck.junk]using hx)⟩
 clear_value h1
 refine callX_ofR [] (hd1 (Q1.sy.ok (k:=0) (c:=Ck.glob gl) rfl)) (by simp) (fun _ _ r=>r.2) ?_
 rintro v h2 ⟨rfl,f2⟩
 have Q2:=Q1.gr f2
 refine⟨_,rfl,cnd_f rfl ?_⟩
 intro K
 refine callX_ofR (R:=fun v h'=>v= .bool (mayB g es)/\Fr [] h2 h') [] ?_ (by simp) (fun _ _ r=>r.2) ?_
 ·exact (okMayR (R:=fun r=>r=mayB g es) rfl h2 _ _ _ (Q2.pick [1] rfl).hp).mono fun v h' ⟨r,Y,e,q⟩=>⟨by rw[e,q],Y.fr⟩
 rintro v h3 ⟨rfl,f3⟩
 have Q3:=Q2.gr f3
 refine⟨_,rfl,cnd_not (fun q=>⟨rfl,Q3.fr⟩) fun q=>cnd_dec (fun _=>⟨rfl,Q3.fr⟩) fun hg=>cnd_dec (fun _=>⟨rfl,Q3.fr⟩) fun hgl=>cnd_dec (fun _=>⟨rfl,Q3.fr⟩) fun hk1=>cnd_dec (fun _=>⟨rfl,Q3.fr⟩) fun hk2=>?_⟩
 obtain⟨g0,g1,gm,ge⟩:=mayN q
 have lE:=Q3.sy.lenV 1 rfl
 obtain⟨N,rfl⟩:∃N:Nat,g=(N:Int):=⟨g.toNat,by omega⟩
 have hkw:IntKind.i64.wrap k=k:=wr (by omega) (by omega)
 rw[hkw]
 intro h5 h6 h7
 have s6:h6.size=h3.size+1:=by simp[h6,h5]
 have Q6:Sq h [Ck.glob gl,Ck.vw eP gA gL gC es] h6 (bB gl gA gL gC es h.size h3.size):=by
  have Y:=(((Q3.sy.newO (ty:=46) [.int .i64 0,.bool false]).stO 3 rfl 0 (.int .i64 k)).stO 3 rfl 1 (.bool up)).turn 3 rfl To.sljunk
  exact⟨Y,fun x hx=>Q3.ri x (by simpa[rds,bB,Ck.junk,Ck.vw,Ck.glob]using hx)⟩
 clear_value h6
 have eP0:G.preT.length=26:=rfl
 have Q7:Sq h [Ck.glob gl,Ck.vw eP gA gL gC es] h7 (sT (some ⟨h6.size,0,none⟩) 26 26 G.preT++bB gl gA gL gC es h.size h3.size):=by
  have Y:=(Q6.sy.litS (E:=eK .u8) (ty:=5) (bI G.preT) rfl (by decide)).pick [4,0,1,2,3] rfl
  exact⟨Y,fun x hx=>Q6.ri x (by simpa[rds,sT,bB,pk,Ck.sl,Ck.junk,Ck.vw,Ck.glob]using hx)⟩
 have hd:Hd [h.size,h3.size] (bB gl gA gL gC es h.size h3.size):=by
  intro x hx
  simp at hx
  rcases hx with rfl | rfl
  ·exact ⟨2,rfl⟩
  ·exact ⟨3,rfl⟩
 have hlt:h.size<h6.size/\h3.size<h6.size:=by
  have a:=(hd.apart (D:=[]) Q6 h.size (by simp)).1
  have b:=(hd.apart (D:=[]) Q6 h3.size (by simp)).1
  exact⟨a,b⟩
 refine⟨h6.size,0,rfl,by omega,by omega,_,_,blk_push_new,?_⟩
 intro h8
 have Q8:Sq h [Ck.glob gl,Ck.vw eP gA gL gC es] h8 (sT (some ⟨h6.size,0,none⟩) 26 26 G.preT++bB gl gA gL gC es h.size h3.size):=Sq.mark Q7
 clear_value h8 h7
 clear Q7
 let esN:List (Nat × Nat):=es.map fun e=>(e.1.toNat,e.2.toNat)
 let F:Nat->Int:=fid k up
 have idl:∀v,v<=1000->(G.idt (F v)).length<=13:=by
  intro v hv
  have hb: -1073800000<=F v/\F v<=1073800000:=by show-1073800000<=fid k up v/\fid k up v<=1073800000;unfold fid;split<;>omega
  have:=G.dec_len 9 (F v).natAbs (by omega)
  unfold G.idt;split<;>simp<;>omega
 refine⟨fun lz h'=>∃(j:Nat) (A:Option Addr) (n c:Nat) (l:List UInt8),[.slice A n c,.int .i64 (j:Int)]=lz/\j<=es.length/\Sq h [Ck.glob gl,Ck.vw eP gA gL gC es] h' (sT A n c l++bB gl gA gL gC es h.size h3.size)/\
   l=G.preT++(esN.take j).flatMap (G.eT F)/\n<=100+200*j,
  fun lz _=>match lz with | [_,.int _ i]=>((es.length:Int)-i).toNat | _=>0,⟨0,_,26,26,G.preT,rfl,by omega,Q8,by simp,by omega⟩,?_⟩
 rintro bA bL bC i h9 ⟨j,A,n,c,l,hlz,hj,Q9,hl,hn⟩
 simp only[List.cons.injEq,Value.slice.injEq,Value.int.injEq,true_and,and_true]at hlz
 obtain⟨⟨rfl,rfl,rfl⟩,rfl⟩:=hlz
 refine cnd_dec (fun hlt=>?_) fun hlt=>?_
 ·have hjl:j<es.length:=by omega
  have hx:es[j]? =some es[j]:=List.getElem?_eq_getElem hjl
  generalize es[j]=e at hx
  obtain⟨⟨z1,z2⟩,z3,z4⟩:=ge j e hx
  obtain⟨u1,hu1⟩:∃u:Nat,e.1=(u:Int):=⟨e.1.toNat,by omega⟩
  obtain⟨u2,hu2⟩:∃u:Nat,e.2=(u:Int):=⟨e.2.toNat,by omega⟩
  have d1:=idl u1 (by omega)
  have d2:=idl u2 (by omega)
  refine appT (s:=⟨#[101,100,103,101,32,91,32,116,97,114,103,101,116,32]⟩) Q9 hd (by show n+14<=_;omega) fun A1 c1 h10 Q10 f10=>?_
  change Sq h _ h10 (sT A1 (n+14) c1 (l++G.edT)++bB gl gA gL gC es h.size h3.size)at Q10
  have apV:∀{A':Option Addr} {n' c':Nat} {l':List UInt8} {h':Heap},Sq h [Ck.glob gl,Ck.vw eP gA gL gC es] h' (sT A' n' c' l'++bB gl gA gL gC es h.size h3.size)->∀{p:Nat},p∈rdOf gA gL->p∉blkOf A':=fun{_ _ _ _ _} Q {p} hp hq=>(Q.sy.hp.ap 0 2 _ _ (by decide) rfl rfl p hq).2 hp
  obtain⟨p,o,ea,_⟩:=Q10.sy.atV 2 rfl (i:=(j:Int)) (by omega) (by omega)
  have hpr:p∈rdOf gA gL:=rd_mem ea (by omega)
  refine⟨blkOf A1,fun x hx w=>(hd.apart Q10 x hx).2 (by simpa[owns,sT,Ck.sl]using w),p,o,ea,by omega,by omega,apV Q10 hpr,e.2,Q10.sy.cellV 2 rfl ea (i:=j) (t:=1) hx rfl,?_⟩
  rw[hu2]
  refine callX_ofR (R:=fun v h'=>v= .string (G.mkB (G.idt (F u2)))/\Fr [] h10 h') [] ?_ (by simp) (fun _ _ r=>r.2) ?_
  ·exact (ok34' (R:=fun s=>s.data.toList=G.idt (F u2)) ⟨by omega,by omega⟩ (by omega) (fun s hs=>hs) h10 (Hp.nil _)).mono fun v h' ⟨s,Y,e,q⟩=>⟨by rw[e,<-q,mkB_l],Y.fr⟩
  rintro v h11 ⟨rfl,f11⟩
  refine⟨_,rfl,f11.mono (by simp),?_⟩
  have Q11:=Q10.gr f11
  refine appT (s:=G.mkB (G.idt (F u2))) Q11 hd (by rw[mkB_sz];show n+14+_<=_;omega) fun A2 c2 h12 Q12 f12=>?_
  rw[mkBl,mkB_sz]at Q12
  rw[mkB_sz]
  refine⟨?_,?_⟩
  ·exact f11.nil.trans f12
  refine appT (s:=⟨#[32,111,116,104,101,114,32,91,32,97,32,91,32,98,32,49,32,93,32,93,32,115,111,117,114,99,101,32]⟩) Q12 hd (by show n+14+_+28<=_;omega) fun A3 c3 h13 Q13 f13=>?_
  change Sq h _ h13 (sT A3 (n+14+(G.idt (F u2)).length+28) c3 (l++G.edT++G.idt (F u2)++G.otT)++bB gl gA gL gC es h.size h3.size)at Q13
  refine⟨blkOf A3,fun x hx w=>(hd.apart Q13 x hx).2 (by simpa[owns,sT,Ck.sl]using w),p,o,ea,by omega,by omega,apV Q13 hpr,e.1,Q13.sy.cellV 2 rfl ea (i:=j) (t:=0) hx rfl,?_⟩
  rw[hu1]
  refine callX_ofR (R:=fun v h'=>v= .string (G.mkB (G.idt (F u1)))/\Fr [] h13 h') [] ?_ (by simp) (fun _ _ r=>r.2) ?_
  ·exact (ok34' (R:=fun s=>s.data.toList=G.idt (F u1)) ⟨by omega,by omega⟩ (by omega) (fun s hs=>hs) h13 (Hp.nil _)).mono fun v h' ⟨s,Y,e,q⟩=>⟨by rw[e,<-q,mkB_l],Y.fr⟩
  rintro v h14 ⟨rfl,f14⟩
  refine⟨_,rfl,f14.mono (by simp),?_⟩
  have Q14:=Q13.gr f14
  refine appT (s:=G.mkB (G.idt (F u1))) Q14 hd (by rw[mkB_sz];show n+14+_+28+_<=_;omega) fun A4 c4 h15 Q15 f15=>?_
  rw[mkBl,mkB_sz]at Q15
  rw[mkB_sz]
  refine⟨f14.nil.trans f15,?_⟩
  refine appT (s:=⟨#[32,93,10]⟩) Q15 hd (by show n+14+_+28+_+3<=_;omega) fun A5 c5 h16 Q16 f16=>?_
  have hw:IntKind.i64.wrap ((j:Int)+1)=((j+1:Nat):Int):=by rw[wr (by omega) (by omega)];omega
  rw[hw]
  refine⟨⟨j+1,A5,_,c5,_,rfl,by omega,Q16,?_,?_⟩,by dsimp only;omega⟩
  ·have hxN:esN[j]? =some (u1,u2):=by
    show(es.map _)[j]? =_
    rw[List.getElem?_map,hx]
    simp[hu1,hu2]
   rw[List.take_add_one,hxN,List.flatMap_append,hl]
   have et:G.eT F (u1,u2)=G.edT++(G.idt (F u2)++(G.otT++(G.idt (F u1)++G.clT))):=rfl
   simp only[Option.toList,List.flatMap_cons,List.flatMap_nil,List.append_nil,et]
   simp only[List.append_assoc]
   rfl
  ·show n+14+_+28+_+3<=_;omega
 have hjE:j=es.length:=by omega
 have el:esN.take j=esN:=List.take_of_length_le (by show(es.map _).length<=j;rw[List.length_map];omega)
 rw[el]at hl
 have nTs_snoc:∀(m v:Nat),G.nTs F (m+1) v=G.nTs F m v++G.nT F (v+m):=by
  intro m
  induction m with
  | zero=>intro v;simp[G.nTs]
  | succ m ih=>
   intro v
   rw[G.nTs,ih (v+1),G.nTs,List.append_assoc,show v+1+m=v+(m+1) by omega]
 refine⟨fun lz h'=>∃(v:Nat) (A:Option Addr) (n c:Nat) (l2:List UInt8),[.slice A n c,.int .i64 (v:Int)]=lz/\v<=N/\Sq h [Ck.glob gl,Ck.vw eP gA gL gC es] h' (sT A n c l2++bB gl gA gL gC es h.size h3.size)/\
   l2=l++G.nTs F v 0/\n<=20000+50*v,
  fun lz _=>match lz with | [_,.int _ i]=>((N:Int)-i).toNat | _=>0,⟨0,A,n,c,l,rfl,by omega,Q9,by simp[G.nTs],by omega⟩,?_⟩
 rintro bA bL bC i h17 ⟨v,A,n,c,l2,hlz,hv,Q17,hl2,hn2⟩
 simp only[List.cons.injEq,Value.slice.injEq,Value.int.injEq,true_and,and_true]at hlz
 obtain⟨⟨rfl,rfl,rfl⟩,rfl⟩:=hlz
 refine cnd_dec (fun hlt=>?_) fun hlt=>?_
 ·have d1:=idl v (by omega)
  refine appT (s:=⟨#[110,111,100,101,91,105,100,32]⟩) Q17 hd (by show n+8<=_;omega) fun A1 c1 h18 Q18 f18=>?_
  refine callX_ofR (R:=fun w h'=>w= .string (G.mkB (G.idt (F v)))/\Fr [] h18 h') [] ?_ (by simp) (fun _ _ r=>r.2) ?_
  ·exact (ok34' (R:=fun s=>s.data.toList=G.idt (F v)) ⟨by omega,by omega⟩ (by omega) (fun s hs=>hs) h18 (Hp.nil _)).mono fun w h' ⟨s,Y,e,q⟩=>⟨by rw[e,<-q,mkB_l],Y.fr⟩
  rintro w h19 ⟨rfl,f19⟩
  refine⟨_,rfl,?_⟩
  refine appT (s:=G.mkB (G.idt (F v))) (Q18.gr f19) hd (by rw[mkB_sz];show n+8+_<=_;omega) fun A2 c2 h20 Q20 f20=>?_
  rw[mkBl,mkB_sz]at Q20
  rw[mkB_sz]
  refine appT (s:=⟨#[93]⟩) Q20 hd (by show n+8+_+1<=_;omega) fun A3 c3 h21 Q21 f21=>?_
  have hw:IntKind.i64.wrap ((v:Int)+1)=((v+1:Nat):Int):=by rw[wr (by omega) (by omega)];omega
  rw[hw]
  refine⟨⟨v+1,A3,_,c3,_,rfl,by omega,Q21,?_,?_⟩,by dsimp only;omega⟩
  ·rw [nTs_snoc,hl2,Nat.zero_add]
   simp only[G.nT,List.append_assoc]
   rfl
  ·show n+8+_+1<=_;omega
 have hvN:v=N:=by omega
 subst hvN
 refine appT (s:=⟨#[32,93,32,101,110,100,32,49,46,53]⟩) Q17 hd (by show n+10<=_;omega) fun A9 c9 h22 Q22 f22=>?_
 have eT:l2++G.enT=G.firstT F esN v:=by
  rw[hl2,hl]
  unfold G.firstT
  simp only[List.append_assoc]
 change Sq h _ h22 (sT A9 (n+10) c9 (l2++G.enT)++bB gl gA gL gC es h.size h3.size)at Q22
 rw[eT]at Q22
 have lT:=Q22.sy.lenS 0 rfl
 rw[bI_len]at lT
 have hF:∀u,u<v-> -1073800000<=F u/\F u<=1073800000:=fun u hu=>by show-1073800000<=fid k up u/\fid k up u<=1073800000;unfold fid;split<;>omega
 obtain⟨x1,hx1⟩:=dec_read 1 (by decide)
 have dec1:G.dec 1=[49]:=by rw[G.dec];rfl
 rw[dec1]at hx1
 have rd:G.read rdF cleanM (G.mkB (G.firstT F esN v))= .ok ⟨v,false,esN,[],[],[]⟩:=
  G.read_first (fun u hu=>idt_read _ (by have:=hF u hu;omega)) ⟨x1,hx1⟩ half_read (fun u hu=>by have:=hF u hu;omega)
   (fun a b ha hb e=>by have e:fid k up a=fid k up b:=e;unfold fid at e;split at e<;>omega) (by omega) (by show(es.map _).length<=_;rw[List.length_map];omega)
   (fun e he=>by
    obtain⟨e0,h1,rfl⟩:=List.mem_map.1 he
    obtain⟨i,hi⟩:=List.mem_iff_getElem?.1 h1
    have:=ge i e0 hi
    simp only;omega) (mkBl _) (by rw[mkB_sz,<-lT];omega)
 have Rd:=Q22.sy.readsS 0 rfl
 refine⟨bI (G.firstT F esN v),reads8 Rd,?_⟩
 rw[strOf_bI]
 refine callX_ofR (R:=rdR gl (G.mkB (G.firstT F esN v)) rdF cleanM h22) [] (ok23 (rdF_ok gl) ok_clean ok269 (Q22.sy.ok (k:=1) (c:=Ck.glob gl) rfl) (by rw[mkB_sz,<-lT];omega) (by rw[rd];simp)) (by simp) ?_ ?_
 ·rintro v h' (⟨dc,aD,aL,aS,aW,nD,cD,nL,cL,nS,cS,nW,cW,_,_,q⟩ | ⟨f,_,_,q⟩)
  ·exact q.fr
  ·exact q
 rintro w h23 (⟨dc,aD,aL,aS,aW,nD,cD,nL,cL,nS,cS,nW,cW,e,rfl,q23⟩ | ⟨f,e,_,q23⟩)
 rotate_left
 ·rw [rd]at e;cases e
 rw[rd]at e
 obtain rfl:(⟨v,false,esN,[],[],[]⟩:G.Dc)=dc:=by injection e
 refine⟨_,aD,nD,cD,_,aL,nL,cL,aS,nS,cS,aW,nW,cW,0,0,rfl,?_⟩
 intro h24 h25 K2
 have f25:Fr [] h23 h25:=((((((Fr.push h23 _).hsetL (Nat.le_refl _)).hsetL (Nat.le_refl _)).hsetL (Nat.le_refl _)).hsetL (Nat.le_refl _)).hsetL (Nat.le_refl _)).hsetL (Nat.le_refl _)
 have s25:h23.size<h25.size:=by simp[h25,h24]
 clear_value h25
 have q25:=q23.gr f25
 have Q25:=Q22.gr q25.fr
 have l1:=q25.sy.lenS 1 rfl
 have l2':=q25.sy.lenS 2 rfl
 have l3:=q25.sy.lenS 3 rfl
 have ees:esN.map pr=es:=by
  show(es.map _).map pr=es
  rw[List.map_map]
  conv=>rhs;rw[<-List.map_id es]
  refine List.map_congr_left fun e he=>?_
  obtain⟨i,hi⟩:=List.mem_iff_getElem?.1 he
  have:=ge i e hi
  simp only[Function.comp,pr,id]
  exact Prod.ext (by simp only;omega) (by simp only;omega)
 refine cnd_t rfl (cnd_t rfl ?_)
 refine callX_ofR (R:=fun w h'=>w= .bool true/\Fr [] h25 h') [] ?_ (by simp) (fun _ _ r=>r.2) ?_
 ·have Hd2:Hp h25 [Ck.vw eP aD nD cD es,Ck.vw eP gA gL gC es]:=by
   have Y1:=(q25.sy.turn 0 rfl To.slvw).ok (k:=0) (c:=Ck.vw eP aD nD cD (esN.map pr)) rfl
   rw[ees]at Y1
   exact Hp.view Y1 rfl (Hp.one (Q25.sy.ok (k:=2) (c:=Ck.vw eP gA gL gC es) rfl)) fun i d hi b hb=>by
    cases i with
    | zero=>simp at hi;subst hi;simp[Ck.vw]at hb
    | succ i=>simp at hi
  refine(ok35' (a:=(v:Int)) (b:=(v:Int)) (xs:=es) (ys:=es) (R:=fun r=>r=true) hes (by simp) h25 _ _ _ _ _ _ Hd2).mono ?_
  rintro w h' ⟨r,Y,rfl,rfl⟩
  exact⟨rfl,Y.fr⟩
 rintro w h26 ⟨rfl,f26⟩
 refine⟨true,rfl,cnd_t rfl ⟨?_,Q25.fr.trans f26⟩⟩
 have n1:nL=0:=l1
 have n2:nS=0:=l2'
 have n3:nW=0:=l3
 rw[n1,n2,n3]
 rfl
end
end Go.Proofs.YtlflalecmhgmjaaGreatDoor.N
namespace Go.X
open Go.ChangeShapes Go.WideShapes Go.ChangeAt Go.RowKit
theorem cell_hc {w:World} {b o:Nat} {s:Option Nat} {v:Value} (h:w.cell? ⟨b,o,s⟩=some v):hcell w.heap b o=some v:=by
 obtain rfl:=Go.Proofs.cell_spot h
 rw[cell_hcell]at h;exact h
section
variable {H:Type} {enc:TypeId × Value->H} {P:Program} {w:World} {base:Nat} {spare:Nat->Bool}
theorem slice_in {α:Type} (E:En α) (D:α->DataW H) {t e:TypeId} {fuel:Nat} {cs:List Value} {p:List MemPlace} {l:List α} (ht:P.underlying t=some (.slice e)) (hc:P.cellsOf e=E.sz)
  (hel:∀(n:Nat) (cs:List Value) (x:α) (p:List MemPlace),DataW.trod enc P w base spare false n e cs=some (D x,p)->cs=E.enc x)
  (hl:0<l.length) (h:DataW.trod enc P w base spare false fuel t cs=some (.slice (l.map D) [],p)):
  ∃b o c,cs=[.slice (some ⟨b,o,none⟩) l.length c]/\∀(i:Nat) (x:α),l[i]? =some x->∀(j:Nat) (v:Value),(E.enc x)[j]? =some v->hcell w.heap b (o+i*E.sz+j)=some v:=by
 rcases DataW.trod_slice ht h with⟨_,hx⟩ | ⟨a,len,cap,el,rs,m,rfl,hcs,hx,_,hlc,_,hel',helem,_,_⟩
 ·cases hx
 have e0:=congrArg Prod.fst hx
 simp only[DataW.slice.injEq]at e0
 obtain⟨eE,_⟩:=e0
 have hlen:len=l.length:=by
  have:=congrArg List.length eE
  simp at this;omega
 have hcell:∀(i:Nat) (x:α),l[i]? =some x->∀(j:Nat) (v:Value),(E.enc x)[j]? =some v->w.cell? ((a.add (i*E.sz)).add j)=some v:=by
  intro i x hi j v hv
  have hil:i<l.length:=(List.getElem?_eq_some_iff.1 hi).1
  have h1:=helem i (by omega)
  rw[hc]at h1
  obtain⟨b,hb⟩:∃b,el[i]? =some b:=⟨el[i]'(by omega),List.getElem?_eq_getElem (by omega)⟩
  rw[hb]at h1
  obtain⟨ce,hce,hte⟩:=Option.bind_eq_some_iff.1 h1
  have hb1:b.1=D x:=by
   have:=congrArg (·[i]?) eE
   simp[hb,hi]at this
   exact this.symm
  obtain⟨b1,b2⟩:=b
  simp only at hb1;subst hb1
  have:=hel _ _ _ _ hte
  subst this
  have hj:j<E.sz:=by
   have:=(List.getElem?_eq_some_iff.1 hv).1
   rwa[E.len]at this
  rw[<-hv]
  exact(World.cells?_some hce).2.2 j hj
 obtain⟨R,o,sR⟩:=a
 have hs:sR=none:=by
  obtain⟨x,hx0⟩:∃x,l[0]? =some x:=⟨l[0]'hl,List.getElem?_eq_getElem hl⟩
  have hp:0<(E.enc x).length:=by rw[E.len];exact E.pos
  have h00:=hcell 0 x hx0 0 _ (List.getElem?_eq_getElem hp)
  have:(Addr.add (Addr.add ⟨R,o,sR⟩ (0*E.sz)) 0)=⟨R,o,sR⟩:=by simp[Addr.add]
  rw[this]at h00
  exact Go.Proofs.cell_spot h00
 subst hs
 refine⟨R,o,cap,by rw[hcs,hlen],fun i x hi j v hv=>?_⟩
 have:=hcell i x hi j v hv
 rw[add_none,add_none]at this
 exact cell_hc this
theorem array_in {α:Type} (E:En α) (D:α->DataW H) {t e:TypeId} {n fuel:Nat} {cs:List Value} {p:List MemPlace} {l:List α} (ht:P.underlying t=some (.array n e)) (hc:P.cellsOf e=E.sz)
  (hel:∀(n:Nat) (cs:List Value) (x:α) (p:List MemPlace),DataW.trod enc P w base spare false n e cs=some (D x,p)->cs=E.enc x)
  (h:DataW.trod enc P w base spare false fuel t cs=some (.agg (l.map D),p)):
  ∀(i:Nat) (x:α),l[i]? =some x->∀(j:Nat) (v:Value),(E.enc x)[j]? =some v->cs[i*E.sz+j]? =some v:=by
 intro i x hi j v hv
 obtain⟨xs,m,rfl,hx,hl,hxl,hall⟩:=DataW.trod_array ht h
 have e0:=congrArg Prod.fst hx
 simp only[DataW.agg.injEq]at e0
 have hn:n=l.length:=by
  have:=congrArg List.length e0
  simp at this;omega
 have hil:i<l.length:=(List.getElem?_eq_some_iff.1 hi).1
 have h1:=hall i (by omega)
 obtain⟨b,hb⟩:∃b,xs[i]? =some b:=⟨xs[i]'(by omega),List.getElem?_eq_getElem (by omega)⟩
 rw[hb,hc]at h1
 have hb1:b.1=D x:=by
  have:=congrArg (·[i]?) e0
  simp[hb,hi]at this
  exact this.symm
 obtain⟨b1,b2⟩:=b
 simp only at hb1;subst hb1
 have:=hel _ _ _ _ h1
 have hj:j<E.sz:=by
  have:=(List.getElem?_eq_some_iff.1 hv).1
  rwa[E.len]at this
 rw[<-this,List.getElem?_take,if_pos hj,List.getElem?_drop]at hv
 exact hv
theorem dat_int {k:IntKind} {e:TypeId} (he:P.underlying e=some (.int k)) (n:Nat) (cs:List Value) (x:Int) (p:List MemPlace) (h:DataW.trod enc P w base spare false n e cs=some (.lit (.int k x),p)):cs=(eK k).enc x:=by
 obtain⟨m,rfl,hm,_⟩:=DataW.trod_int he h
 cases hm;rfl
theorem dat_float {k:FloatKind} {e:TypeId} (he:P.underlying e=some (.float k)) (n:Nat) (cs:List Value) (x:Nat) (p:List MemPlace) (h:DataW.trod enc P w base spare false n e cs=some (.lit (.float k x),p)):cs=[.float k x]:=by
 cases n with
 | zero=>simp[DataW.trod]at h
 | succ m=>
  unfold DataW.trod at h
  rw[he]at h
  split at h<;>simp_all
theorem dat_str {e:TypeId} (he:P.underlying e=some .string) (n:Nat) (cs:List Value) (x:List UInt8) (p:List MemPlace) (h:DataW.trod enc P w base spare false n e cs=some (.lit (.string x),p)):cs=[.string ⟨x.toArray⟩]:=by
 obtain⟨m,rfl,hm,_⟩:=DataW.trod_string he h
 cases hm;rfl
theorem dat_bool {e:TypeId} (he:P.underlying e=some .bool) (n:Nat) (cs:List Value) (x:Bool) (p:List MemPlace) (h:DataW.trod enc P w base spare false n e cs=some (.lit (.bool x),p)):cs=[.bool x]:=by
 obtain⟨m,rfl,hm⟩:=DataW.trod_bool he h
 cases hm;rfl
theorem struct_in {t:TypeId} {fs:Array Field} {ds:List (DataW H)} {n:Nat} {cs:List Value} {p:List MemPlace} (ht:P.underlying t=some (.struct fs)) (h:DataW.trod enc P w base spare false n t cs=some (.agg ds,p)):
  cs.length=P.cellsOf t/\∀(i:Nat) (f:Field),fs[i]? =some f->f.offset=i->P.cellsOf f.type=1->∃m d q,ds[i]? =some d/\DataW.trod enc P w base spare false m f.type ((cs.drop i).take 1)=some (d,q):=by
 obtain⟨xs,m,rfl,hx,hl,hxl,hall⟩:=DataW.trod_struct ht h
 have e0:=congrArg Prod.fst hx
 simp only[DataW.agg.injEq]at e0
 refine⟨hl,fun i f hf ho hc=>?_⟩
 have h1:=hall i f hf
 rw[ho,hc]at h1
 have hi:i<xs.length:=by rw[hxl];exact(Array.getElem?_eq_some_iff.1 hf).1
 rw[List.getElem?_eq_getElem hi]at h1
 refine⟨m,xs[i].1,xs[i].2,?_,h1⟩
 rw[e0,List.getElem?_map,List.getElem?_eq_getElem hi];rfl
end
theorem at_one {l:List Value} {i:Nat} {v:Value} (h:(l.drop i).take 1=[v]):l[i]? =some v:=by
 have:=congrArg (·[0]?) h
 simpa using this
theorem two_of {l:List Value} {a b:Value} (hl:l.length=2) (h0:l[0]? =some a) (h1:l[1]? =some b):l=[a,b]:=by
 match l,hl with
 | [x,y],_=>simp at h0 h1;rw[h0,h1]
theorem returns_change_shaped {H:Type} {enc:TypeId × Value->H} {a:Assume} {C:Checked} {os:Os} {f:FuncId} {fn:Func} {s:ChangeSpec} {conds:List PathCond} {apart fresh handsOn again:Bool} {X:World->Array Value->Prop}
  (hX:∀(w w':World) (args:Array Value),w.heap=w'.heap->X w args->X w' args)
  (own:ownKnob C.prog.godebug=none) (started:os.Started) (noInit:C.prog.inits.idxOf? f=none) (hfn:C.prog.funcs[f]? =some fn)
  (witness:∃(w:World) (tape:Tape) (i:Input),w.os=os/\(w.forCall tape i).Shaped C.prog/\i.vars=[]/\Input.okWide C.prog (w.forCall tape i) .any w.heap.size f i/\
   ((s.pre enc C.prog fn conds apart (w.forCall tape i).memory i.args/\X (w.forCall tape i).memory i.args)/\sizedMet enc C.prog fn (OpenSpec.ofChange s) apart (w.forCall tape i).memory i.args)/\a.holds C.prog (lone (Frame.enter C.prog f i.args .normal) [] (w.forCall tape i)))
  (contract:∀(W:World) (base:Nat) (args:Array Value) (ds gs:List (DataW H)) (before:List MemPlace),
   (∀(j:Nat) t v,fn.params[j]? =some t->args[j]? =some v->Value.okWide C.prog W .any base t v)->
   DataW.Whole enc C.prog fn.params.toList s.vars apart W args.toList ds gs before->
   X W args->W.ShapedOpen C.prog->
   Calls C.prog f args W fun e W'=>∃v,e= .returned v/\s.post enc C.prog fn apart fresh handsOn again W args v W'):
  ReturnsInHanded a C os f .any (fun w args=>(s.pre enc C.prog fn conds apart w args/\X w args)/\sizedMet enc C.prog fn (OpenSpec.ofChange s) apart w args) (s.post enc C.prog fn apart fresh handsOn again):=by
 refine returnsInHanded_of_calls own started noInit witness ?_
 intro w tape i _ hsh _ hok hpre hholds
 obtain⟨_,_,_,fn',hfn',_,_,_,_,hval⟩:=hok
 have e:fn'=fn:=Option.some.inj (hfn'.symm.trans hfn)
 subst e
 obtain⟨⟨⟨ds,gs,before,hw,hc⟩,hx⟩,hz⟩:=hpre
 have hw':=DataW.Whole.of_heap (w':=w.forCall tape i) (by rfl) hw
 refine(contract (w.forCall tape i) w.heap.size i.args ds gs before hval hw' (hX _ _ _ (by rfl) hx) hsh).mono fun e W' ⟨v,he,hp⟩=>?_
 subst he
 exact ChangeSpec.post_blind hp
end Go.X
namespace Go.Proofs.YtlflalecmhgmjaaGreatDoor.N
open Go.X Go.Lib
set_option maxRecDepth 100000
def dF (x:Nat):DataW Unit:=.lit (.float .f64 x)
def dU (x:Int):DataW Unit:=.lit (.int .u64 x)
def dI (x:Int):DataW Unit:=.lit (.int .i64 x)
def dR (x:Nat × Nat):DataW Unit:=.agg [.lit (.int .u64 x.1),.lit (.int .u64 x.2)]
def dCht (x:Nat × List UInt8):DataW Unit:=.agg [.lit (.int .i64 x.1),.lit (.string x.2)]
def eR2 :En (Nat × Nat):=⟨2,fun x=>[.int .u64 x.1,.int .u64 x.2],by decide,fun _=>rfl,fun x v h=>by simp at h;rcases h with rfl | rfl<;>rfl⟩
def eC2 :En (Nat × List UInt8):=⟨2,fun x=>[.int .i64 x.1,.string ⟨x.2.toArray⟩],by decide,fun _=>rfl,fun x v h=>by simp at h;rcases h with rfl | rfl<;>rfl⟩
theorem isU :(Rows.laid_internal_strconv_uint64pow10:DataW Unit)= .agg (tU.map dU):=by kernel_rfl
theorem isP :(Rows.laid_internal_strconv_powtab:DataW Unit)= .slice (tP.map dI) []:=by kernel_rfl
theorem isF :(Rows.laid_internal_strconv_float64pow10:DataW Unit)= .slice (tF.map dF) []:=by kernel_rfl
theorem isT :Rows.laid_internal_strconv_pow10Tab= .agg (Go.Pinned.pow10Rows.map dR):=rfl
theorem isL :Rows.laid_internal_strconv_leftcheats= .slice (Go.Pinned.cheatRows.map dCht) []:=rfl
theorem lenL :0<Go.Pinned.cheatRows.length:=by decide+kernel
theorem pair2 :∀(l:List (Nat × Nat)) (i:Nat) (v:Int),(l.flatMap fun x=>[(x.1:Int),(x.2:Int)])[i]? =some v->∃x,l[i/2]? =some x/\(eR2.enc x)[i % 2]? =some (.int .u64 v)
 | [],i,v,h=>by simp at h
 | x::l,0,v,h=>by simp at h;subst h;exact⟨x,rfl,rfl⟩
 | x::l,1,v,h=>by simp at h;subst h;exact⟨x,rfl,rfl⟩
 | x::l,i+2,v,h=>by
  simp only[List.flatMap_cons,List.cons_append,List.nil_append,List.getElem?_cons_succ]at h
  obtain⟨y,h1,h2⟩:=pair2 l i v h
  refine⟨y,?_,?_⟩
  ·rw [show(i+2)/2=i/2+1 by omega,List.getElem?_cons_succ];exact h1
  ·rw [show(i+2) % 2=i % 2 by omega];exact h2
section
variable {W:World}
theorem read_at {n:String} {g:Nat} {t:TypeId} {d:DataW Unit} (hn:Tryz.prog.globalNamed n=some g) (ht:(Tryz.prog.globals[g]?).map (·.type)=some t) (h:VarReads Tryz.prog W n d):
  ∃cs fuel p,DataW.trod (fun _=>()) Tryz.prog W 0 (fun _=>true) false fuel t cs=some (d,p)/\∀(i:Nat) (v:Value),cs[i]? =some v->hcell W.heap g i=some v:=by
 obtain⟨g',t',cs,fuel,p,h1,h2,h3,h4⟩:=h
 obtain rfl:=Option.some.inj (hn.symm.trans h1)
 obtain rfl:=Option.some.inj (ht.symm.trans h2)
 refine⟨cs.toList,fuel,p,h4,fun i v hi=>cell_hc (s:=none) ?_⟩
 rw[World.var?_cell hn h3 i,<-Array.getElem?_toList];exact hi
theorem uu_of (h:VarReads Tryz.prog W "internal/strconv.uint64pow10" (.agg (tU.map dU))):∃e f,W.heap[2]? =some (.cells (tU.map fun z=>Value.int .u64 z).toArray e f):=by
 obtain⟨g',t',cs,fuel,p,h1,h2,h3,h4⟩:=h
 obtain rfl:=Option.some.inj ((show Tryz.prog.globalNamed "internal/strconv.uint64pow10" =some 2 by kernel_rfl).symm.trans h1)
 obtain rfl:=Option.some.inj ((show(Tryz.prog.globals[2]?).map (·.type)=some 275 by kernel_rfl).symm.trans h2)
 have u6:=array_in (eK .u64) dU Tryz.underlying275 (by kernel_rfl) (dat_int (by kernel_rfl)) h4
 obtain⟨xs,m,_,_,hl,_⟩:=DataW.trod_array Tryz.underlying275 h4
 have hl:cs.toList.length=20:=hl.trans (by kernel_rfl)
 have e:cs.toList=tU.map fun z=>Value.int .u64 z:=by
  apply List.ext_getElem?
  intro i
  by_cases hi:i<20
  ·obtain ⟨z,hz⟩:∃z,tU[i]? =some z:=⟨tU[i]'hi,List.getElem?_eq_getElem _⟩
   have:=u6 i z hz 0 _ rfl
   rw[show i*(eK IntKind.u64).sz+0=i from Nat.mul_one i]at this
   rw[this,List.getElem?_map,hz];rfl
  ·rw [List.getElem?_eq_none (by omega),List.getElem?_eq_none (by rw[List.length_map];show 20<=i;omega)]
 unfold World.var? at h3
 rw[h1,Option.bind_some]at h3
 split at h3
 ·rename_i c el fr hh
  obtain rfl:=Option.some.inj h3
  refine⟨el,fr,hh.trans ?_⟩
  have e2:c=(tU.map fun z=>Value.int .u64 z).toArray:=by rw[<-e]
  rw[e2]
 ·cases h3
theorem glOf (h:laidMetH Tryz.prog Rows.gmlLabelsRow.laid W) (hS:W.ShapedOpen Tryz.prog):∃gl,Gl gl W.heap:=by
 rw[MakeChecks.laidMetH_plain _ _ _ (by kernel_rfl)]at h
 have r:∀{n d},(n,d)∈Rows.gmlLabelsRow.laid->VarReads Tryz.prog W n d:=fun hm=>laidMet.reads h hm
 obtain⟨c3,f3,p3,t3,k3⟩:=read_at (g:=3) (t:=4) (by kernel_rfl) (by kernel_rfl) (r (n:= "internal/strconv.optimize") (d:=Rows.laid_internal_strconv_optimize) (by simp[Rows.gmlLabelsRow]))
 obtain⟨c5,f5,p5,t5,k5⟩:=read_at (g:=13) (t:=401) (by kernel_rfl) (by kernel_rfl) (r (n:= "internal/strconv.float64info") (d:=Rows.laid_internal_strconv_float64info) (by simp[Rows.gmlLabelsRow]))
 obtain⟨c6,f6,p6,t6,k6⟩:=read_at (g:=2) (t:=275) (by kernel_rfl) (by kernel_rfl) (r (n:= "internal/strconv.uint64pow10") (d:=Rows.laid_internal_strconv_uint64pow10) (by simp[Rows.gmlLabelsRow]))
 obtain⟨c9,f9,p9,t9,k9⟩:=read_at (g:=15) (t:=104) (by kernel_rfl) (by kernel_rfl) (r (n:= "internal/strconv.powtab") (d:=Rows.laid_internal_strconv_powtab) (by simp[Rows.gmlLabelsRow]))
 obtain⟨c10,f10,p10,t10,k10⟩:=read_at (g:=16) (t:=27) (by kernel_rfl) (by kernel_rfl) (r (n:= "internal/strconv.float64pow10") (d:=Rows.laid_internal_strconv_float64pow10) (by simp[Rows.gmlLabelsRow]))
 obtain⟨c11,f11,p11,t11,k11⟩:=read_at (g:=10) (t:=367) (by kernel_rfl) (by kernel_rfl) (r (n:= "internal/strconv.pow10Tab") (d:=Rows.laid_internal_strconv_pow10Tab) (by simp[Rows.gmlLabelsRow]))
 obtain⟨c12,f12,p12,t12,k12⟩:=read_at (g:=11) (t:=372) (by kernel_rfl) (by kernel_rfl) (r (n:= "internal/strconv.leftcheats") (d:=Rows.laid_internal_strconv_leftcheats) (by simp[Rows.gmlLabelsRow]))
 obtain⟨c1,f1,p1,t1,k1⟩:=read_at (g:=4) (t:=132) (by kernel_rfl) (by kernel_rfl) (r (n:= "strconv.ErrSyntax") (d:=Rows.laid_strconv_ErrSyntax) (by simp[Rows.gmlLabelsRow]))
 obtain⟨c2,f2,p2,t2,k2⟩:=read_at (g:=5) (t:=132) (by kernel_rfl) (by kernel_rfl) (r (n:= "strconv.ErrRange") (d:=Rows.laid_strconv_ErrRange) (by simp[Rows.gmlLabelsRow]))
 have uu:=uu_of (by have:=r (n:= "internal/strconv.uint64pow10") (d:=Rows.laid_internal_strconv_uint64pow10) (by simp[Rows.gmlLabelsRow]);rwa[isU]at this)
 obtain⟨m1,hm1⟩:=cell_of_shapedOpen_int (g:=1) (t:=3) (k:=.i64) hS (of_decide_eq_true (by kernel_rfl)) (zero:=#[.int .i64 0]) (by kernel_rfl) rfl (by kernel_rfl) (by kernel_rfl) (by kernel_rfl)
 clear h r
 rw[isU]at t6
 rw[isP]at t9
 rw[isF]at t10
 rw[isT]at t11
 rw[isL]at t12
 have u6:=array_in (eK .u64) dU Tryz.underlying275 (by kernel_rfl) (dat_int (by kernel_rfl)) t6
 obtain⟨pb,po,pc,rfl,u9⟩:=slice_in (eK .i64) dI Tryz.underlying104 (by kernel_rfl) (dat_int (by kernel_rfl)) (by decide) t9
 obtain⟨fb,fo,fc,rfl,u10⟩:=slice_in (⟨1,fun x=>[.float .f64 x],by decide,fun _=>rfl,fun x v h=>by simp at h;subst h;rfl⟩:En Nat) dF Tryz.underlying27 (by kernel_rfl) (dat_float (by kernel_rfl)) (by decide) t10
 have u11:=array_in eR2 dR Tryz.underlying367 (by kernel_rfl) (fun n cs x p q=>by
  obtain⟨hl,ha⟩:=struct_in Tryz.underlying366 q
  obtain⟨m0,d0,q0,e0,h0⟩:=ha 0 _ rfl rfl (by kernel_rfl)
  obtain⟨m1,d1,q1,e1,h1⟩:=ha 1 _ rfl rfl (by kernel_rfl)
  cases e0;cases e1
  exact two_of hl (at_one (dat_int Tryz.underlying146 _ _ _ _ h0)) (at_one (dat_int Tryz.underlying146 _ _ _ _ h1))) t11
 obtain⟨lb,lo,lc,rfl,u12⟩:=slice_in eC2 dCht Tryz.underlying372 (by kernel_rfl) (fun n cs x p q=>by
  obtain⟨hl,ha⟩:=struct_in Tryz.underlying371 q
  obtain⟨m0,d0,q0,e0,h0⟩:=ha 0 _ rfl rfl (by kernel_rfl)
  obtain⟨m1,d1,q1,e1,h1⟩:=ha 1 _ rfl rfl (by kernel_rfl)
  cases e0;cases e1
  exact two_of hl (at_one (dat_int Tryz.underlying3 _ _ _ _ h0)) (at_one (dat_str Tryz.underlying9 _ _ _ _ h1))) lenL t12
 obtain⟨_,ha⟩:=struct_in Tryz.underlying401 t5
 have s5:∀(i:Nat) (f:Field) (k:IntKind) (x:Int),#[{name:= "mantbits",type:=170,offset:=0,embedded:=false,tag:= "",pkgPath:= "internal/strconv",byteOffset:=0},{name:= "expbits",type:=170,offset:=1,embedded:=false,tag:= "",pkgPath:= "internal/strconv",byteOffset:=8},{name:= "bias",type:=3,offset:=2,embedded:=false,tag:= "",pkgPath:= "internal/strconv",byteOffset:=16}][i]? =some f->f.offset=i->Tryz.prog.cellsOf f.type=1->
   Tryz.prog.underlying f.type=some (.int k)->([.lit (.int .u64 52),.lit (.int .u64 11),.lit (.int .i64 (-1023))]:List (DataW Unit))[i]? =some (.lit (.int k x))->hcell W.heap 13 i=some (.int k x):=fun i f k x hf ho hc hu hx=>by
  obtain⟨m,d,q,e,h⟩:=ha i f hf ho hc
  obtain rfl:=Option.some.inj (hx.symm.trans e)
  exact k5 i _ (at_one (dat_int hu _ _ _ _ h))
 have ifc:∀{g f p cs} {d:DataW Unit} {s:String},DataW.trod (fun _=>()) Tryz.prog W 0 (fun _=>true) false f 132 cs=some (.iface s d,p)->(∀(i:Nat) (v:Value),cs[i]? =some v->hcell W.heap g i=some v)->∃t v,hcell W.heap g 0=some (.iface t v):=by
  intro g f p cs d s h k
  cases f with
  | zero=>simp[DataW.trod]at h
  | succ m=>
   unfold DataW.trod at h
   rw[Tryz.underlying132]at h
   split at h<;>simp_all
 refine⟨⟨pb,po,pc,fb,fo,fc,lb,lo,lc⟩,?_⟩
 exact{
  opt:=k3 0 _ (by rw[dat_bool Tryz.underlying4 _ _ _ _ t3];rfl)
  i0:=s5 0 _ _ _ rfl rfl (by kernel_rfl) Tryz.underlying170 rfl
  i1:=s5 1 _ _ _ rfl rfl (by kernel_rfl) Tryz.underlying170 rfl
  i2:=s5 2 _ _ _ rfl rfl (by kernel_rfl) Tryz.underlying3 rfl
  u:=fun i v hv=>by rw[Nat.zero_add];exact k6 i _ (by have:=u6 i v hv 0 _ rfl;rwa[show i*(eK IntKind.u64).sz+0=i from Nat.mul_one i]at this)
  t:=fun i v hv=>by
   rw[Nat.zero_add]
   obtain⟨x,hx,hv2⟩:=pair2 _ _ _ hv
   have:=u11 _ _ hx _ _ hv2
   rw[show i/2*eR2.sz+i % 2=i from Nat.div_add_mod' i 2]at this
   exact k11 i _ this
  p0:=k9 0 _ rfl
  p:=fun i v hv=>by have:=u9 i v hv 0 _ rfl;rwa[show po+i*(eK IntKind.i64).sz+0=po+i by show po+i*1+0=po+i;omega]at this
  f0:=k10 0 _ rfl
  f:=fun i v hv=>by have:=u10 i v hv 0 _ rfl;rwa[show fo+i*1+0=fo+i by omega]at this
  l0:=k12 0 _ rfl
  l:=fun i v hv=>by
   obtain⟨x,hx,rfl⟩:∃x,Go.Pinned.cheatRows[i]? =some x/\v=((x.1:Int),(⟨x.2.toArray⟩:ByteArray)):=by
    unfold tL at hv
    rw[List.getElem?_map]at hv
    obtain⟨x,h1,h2⟩:=Option.map_eq_some_iff.1 hv
    exact⟨x,h1,h2.symm⟩
   have a0:=u12 i x hx 0 _ rfl
   have a1:=u12 i x hx 1 _ rfl
   exact⟨a0,a1⟩
  uu:=uu
  ml:=⟨m1,cell_hc hm1⟩
  e1:=ifc t1 k1
  e2:=ifc t2 k2}
theorem met (os:Os) (args:Array Value):laidMetH Tryz.prog Rows.gmlLabelsRow.laid ((World.laidAll Tryz.prog os Rows.gmlLabelsRow.laid).forCall (fun _ _=>0) ⟨#[],args,[]⟩).memory:=by
 rw[MakeChecks.laidMetH_plain _ _ _ (by kernel_rfl)]
 exact laidMet_laidAll _ (by kernel_rfl) (by kernel_rfl)
end
end Go.Proofs.YtlflalecmhgmjaaGreatDoor.N
namespace Go.X
open Go.ChangeShapes Go.WideShapes Go.ChangeAt Go.RowKit
end Go.X
namespace Go.X
open Go.ChangeShapes Go.WideShapes Go.ChangeAt Go.RowKit Go.Deep
theorem calls_below {P:Program} {f:FuncId} {args:Array Value} {v:Value} {W:World} (c:CallsH P f args W.heap fun v' h'=>Fr [] W.heap h'/\v'=v):
  Calls P f args W fun e w'=>e= .returned v/\Below W.heap.size W w':=
 (c W rfl).mono fun e w' ⟨u,h1,h2,h3,h4⟩=>⟨by rw[h1,h4],⟨h2.os,h2.tape,h2.output,h3.size,fun k hk=>h3.blk k hk (by simp)⟩⟩
theorem spot_of {P:Program} {w:World} {r:Reach} {base:Nat} {t e:TypeId} {a:Addr} {len cap:Nat} (ht:P.underlying t=some (.slice e)) (h:Cell.okWide P w r base t (.slice (some a) len cap)):a.spot=none:=by
 simp only[Cell.okWide,ht,Cell.ok]at h
 exact h.2.2.2.1
section
variable {H:Type} {enc:TypeId × Value->H} {P:Program} {W:World} {base:Nat}
theorem vw_open {α:Type} [Inhabited α] (E:En α) {t e:TypeId} {a:Option Addr} {len cap:Nat} {d:DataW H} {p:List MemPlace} (ht:P.underlying t=some (.slice e)) (hc:P.cellsOf e=E.sz)
  (hs:∀x,a=some x->x.spot=none)
  (hel:∀(n:Nat) (cs:List Value) (y:DataW H × List MemPlace),DataW.trod enc P W base (fun _=>true) true n e cs=some y->∃x:α,cs=E.enc x)
  (h:DataW.Trod enc P W base (fun _=>true) true t (.slice a len cap) d p):∃xs:List α,(Ck.vw E a len cap xs).ok W.heap/\(xs.length=0\/∃el sp,d= .slice el sp/\el.length=xs.length):=by
 obtain⟨fuel,hf⟩:=h
 have hcs0:(Value.slice a len cap).cells.toList=[.slice a len cap]:=rfl
 rw[hcs0]at hf
 rcases open_slice ht hf with⟨hcs,_⟩ | ⟨x,l,c,m,n,D,Pl,hcs,_,hl,hm,hmm,hd,hx⟩
 ·simp at hcs
  obtain⟨rfl,rfl,rfl⟩:=hcs
  exact⟨[],⟨⟨by simp[En.l],.inl ⟨rfl,rfl⟩⟩,rfl,Nat.le_refl _,fun _=>rfl⟩,.inl rfl⟩
 ·simp at hcs
  obtain⟨rfl,rfl,rfl⟩:=hcs
  simp only[if_true]at hmm
  subst hmm
  have hsp:=hs x rfl
  obtain⟨b,o,sp⟩:=x
  simp only at hsp
  subst hsp
  obtain⟨V,hV⟩:=choose_lt (α:=α) (p:=fun i v=>W.cells? base ((⟨b,o,none⟩:Addr).add (i*P.cellsOf e)) (P.cellsOf e)=some (E.enc v)) (fun i hi=>by
   obtain⟨cs',h1,h2⟩:=hx i hi
   obtain⟨v,rfl⟩:=hel _ _ _ h2
   exact⟨v,h1⟩)
  refine⟨(List.range len).map V,⟨⟨by rw[En.l_len];simp,.inr ⟨b,o,rfl,fun j v hj=>?_⟩⟩,by simp,hl,fun q=>by cases q⟩,.inr ⟨_,_,congrArg Prod.fst hd,by simp⟩⟩
  have hjl:j<len*E.sz:=by
   have:=(List.getElem?_eq_some_iff.1 hj).1
   rw[En.l_len]at this;simpa using this
  have hi:j/E.sz<len:=Nat.div_lt_of_lt_mul (by rw[Nat.mul_comm];exact hjl)
  have ht2:j % E.sz<E.sz:=Nat.mod_lt _ E.pos
  have ej:j/E.sz*E.sz+j % E.sz=j:=Nat.div_add_mod' j E.sz
  have g1:((List.range len).map V)[j/E.sz]? =some (V (j/E.sz)):=by simp[hi]
  have hlen:j % E.sz<(E.enc (V (j/E.sz))).length:=by rw[E.len];exact ht2
  have g2:=En.l_get g1 (List.getElem?_eq_getElem hlen)
  rw[ej,hj]at g2
  obtain rfl:=Option.some.inj g2
  have g3:=(World.cells?_some (hV (j/E.sz) (by omega))).2.2 (j % E.sz) (by rw[hc];exact ht2)
  rw[Go.Deep.add_add,hc,ej,List.getElem?_eq_getElem hlen]at g3
  rw[<-g3]
  rw[show(⟨b,o,none⟩:Addr).add j=⟨b,o+j,none⟩from add_none _ _ _,cell_hcell]
theorem el_pair {n:Nat} {t e:TypeId} {cs:List Value} {y:DataW H × List MemPlace} (ht:P.underlying t=some (.array 2 e)) (he:P.underlying e=some (.int .i64)) (h1:P.cellsOf t=2) (h2:P.cellsOf e=1) (h:DataW.trod enc P W base (fun _=>true) true n t cs=some y):∃x:Int × Int,cs=eP.enc x:=by
 obtain⟨xs,m,_,_,hl,hxl,hx⟩:=DataW.trod_array ht h
 rw[h1]at hl
 match cs,hl with
 | [c0,c1],_=>
  match xs,hxl with
  | [y0,y1],_=>
   have q0:=hx 0 (by omega)
   have q1:=hx 1 (by omega)
   rw[h2]at q0 q1
   simp at q0 q1
   obtain⟨a,ha,_⟩:=DataW.trod_int he q0
   obtain⟨b,hb,_⟩:=DataW.trod_int he q1
   simp at ha hb
   exact⟨(a,b),by simp[eP,ha,hb]⟩
theorem net_open {r:Reach} {b0:Nat} {t ti ts ta:TypeId} {f0 f1:Field} {v:Value} {d:DataW H} {p:List MemPlace} (ht:P.underlying t=some (.struct #[f0,f1])) (h0:f0.type=ti) (h1:f1.type=ts) (o0:f0.offset=0) (o1:f1.offset=1)
  (hi:P.underlying ti=some (.int .i64)) (hs:P.underlying ts=some (.slice ta)) (ha:P.underlying ta=some (.array 2 ti)) (ct:P.cellsOf t=2) (ci:P.cellsOf ti=1) (cs1:P.cellsOf ts=1) (ca:P.cellsOf ta=2)
  (hct:P.cellTypes P.depth t=some [ti,ts]) (hv:Value.okWide P W r b0 t v) (h:DataW.Trod enc P W base (fun _=>true) true t v d p):
  ∃(n:Int) (a:Option Addr) (l c:Nat) (es:List (Int × Int)),v= .agg #[.int .i64 n,.slice a l c]/\(Ck.vw eP a l c es).ok W.heap/\∃d0 d1,d= .agg [d0,d1]/\(es.length=0\/∃el sp,d1= .slice el sp/\el.length=es.length):=by
 obtain⟨cs,rfl,hcs⟩:=okWide_struct ht hv
 have hrow:Row.okWide P W r b0 t cs:=by
  have hv':=hv
  simp only[Value.okWide,ht]at hv'
  obtain⟨cs',e1,_,hr⟩:=hv'
  cases e1
  exact hr
 rw[ct]at hcs
 obtain⟨fuel,hf⟩:=h
 obtain⟨y0,y1,n,hd,_,t0,t1⟩:=trod_struct2 ht hf
 obtain⟨l⟩:=cs
 match l,hcs with
 | [c0,c1],_=>
  have hcl:(Value.agg ⟨[c0,c1]⟩).cells.toList=[c0,c1]:=rfl
  rw[hcl,h0,o0,ci]at t0
  rw[hcl,h1,o1,cs1]at t1
  simp at t0 t1
  obtain⟨m,hm,_⟩:=DataW.trod_int hi t0
  simp at hm
  subst hm
  have hc1:∃a l c,c1= .slice a l c:=by
   rcases open_slice hs t1 with⟨e,_⟩ | ⟨x,l,c,_,_,_,_,e,_⟩
   ·simp at e;exact⟨_,_,_,e⟩
   ·simp at e;exact⟨_,_,_,e⟩
  obtain⟨a,l,c,rfl⟩:=hc1
  have hsp:∀x,a=some x->x.spot=none:=by
   rintro x rfl
   obtain⟨tys,q1,_,q2⟩:=hrow
   rw[hct]at q1
   obtain rfl:=Option.some.inj q1
   obtain⟨u,q3,q4⟩:=q2 1 (.slice (some x) l c) rfl
   obtain rfl:ts=u:=by simpa using q3
   exact spot_of hs q4
  obtain⟨es,hes,hlen⟩:=vw_open eP (enc:=enc) (base:=base) hs ca hsp (fun n cs y=>el_pair ha hi ca ci) ⟨n,t1⟩
  exact⟨m,a,l,c,es,rfl,hes,_,_,congrArg Prod.fst hd,hlen⟩
end
theorem owns_nil {cs:List Ck} (h:owns cs=[]) {k:Nat} {d:Ck} (hd:cs[k]? =some d):∀b,b∉d.own:=fun b hb=>by
 have:b∈owns cs:=List.mem_flatMap.2 ⟨d,List.mem_of_getElem? hd,hb⟩
 rw[h]at this;simp at this
theorem Hp.vw {h:Heap} {c:Ck} {cs:List Ck} (hc:c.ok h) (ho:c.own=[]) (H:Hp h cs) (hn:owns cs=[]):Hp h (c::cs):=
 Hp.view hc ho H fun _ _ hd b hb=>absurd hb (owns_nil hn hd b)
end Go.X
namespace Go.X
open Go.ChangeShapes Go.WideShapes Go.ChangeAt Go.RowKit Go.Deep
section
variable {H:Type} {enc:TypeId × Value->H} {P:Program} {W:World} {base:Nat}
end
end Go.X
namespace Go.Proofs.YtlflalecmhgmjaaGreatDoor
end Go.Proofs.YtlflalecmhgmjaaGreatDoor
namespace Go.X
open Go.ChangeShapes Go.WideShapes Go.ChangeAt Go.RowKit Go.Deep
section
variable {H:Type} {enc:TypeId × Value->H} {P:Program} {W:World} {base:Nat}
end
end Go.X
namespace Go.Proofs.YtlflalecmhgmjaaGreatDoor
end Go.Proofs.YtlflalecmhgmjaaGreatDoor
