/- tracerylaw30.GmlEdgesFirst is true. Conditions: none. -/
import Derived.Test.YtlflalecmhgmjaaGreatDoorTEdg
import Derived.Test.YtlflalecmhgmjaaGreatDoorTGw
import Derived.Test.YtlflalecmhgmjaaGreatDoorWEnv
import Derived.Test.YtlflalecmhgmjaaGreatDoorSWr
import Derived.Test.YtlflalecmhgmjaaGreatDoorHSt
set_option linter.unusedVariables false
set_option linter.unusedSimpArgs false
open Go.IntKind (i64 u64 u8 i32)
namespace Go.Proofs.YtlflalecmhgmjaaGreatDoor.N
open Go.Proofs.YtlflalecmhgmjaaGreatDoor
open Go.X
open Go.Proofs
set_option maxRecDepth 100000
theorem se (xs:List Int):(strOf xs).data.toList=xs.map fun n=>UInt8.ofNat n.toNat:=by
 have gen:∀(xs:List Int) (b:ByteArray),(xs.foldl (fun r n=>r.push (UInt8.ofNat n.toNat)) b).data.toList=b.data.toList++xs.map fun n=>UInt8.ofNat n.toNat:=by
  intro xs
  induction xs with
  | nil=>intro b;simp
  | cons x xs ih=>intro b;rw[List.foldl_cons,ih];simp[ByteArray.push]
 have:=gen xs ByteArray.empty
 unfold strOf
 rw[this];rfl
theorem jA (l:List UInt8):strOf (bI l)=G.mkB l:=by
 apply ByteArray.ext;apply Array.ext'
 rw[se,jB,bI,List.map_map]
 conv=>rhs;rw[<-List.map_id l]
 apply List.map_congr_left
 intro x _
 simp
theorem Ax {n:Nat}:(strOf [u8.wrap (i64.wrap (48+((n % 10:Nat):Int)))]).data.toList=[G.dg n]:=by
 rw[se]
 have h:n % 10<10:=Nat.mod_lt _ (by decide)
 rw[wr (by omega) (by omega),u8w (by omega) (by omega)]
 show [UInt8.ofNat (48+((n % 10:Nat):Int)).toNat]=[UInt8.ofNat (48+n % 10)]
 congr 2
theorem zR :∀(n:Nat),n<=1000000000000->∀{R:ByteArray->Prop},(∀s:ByteArray,s.data.toList=G.dec n->R s)->AQ (n:Int) R:=by
 intro n
 induction n using Nat.strongRecOn with
 | _ n ih=>
  intro hn R r
  apply E5
  unfold T38
  refine af (fun h=>?_) fun h=>?_
  ·have e:(n:Int)=((n % 10:Nat):Int):=by omega
   refine r _ ?_
   rw[e,Ax,G.dec,if_pos (by omega)]
  ·refine⟨fun x=>x.data.toList=G.dec n,⟨by decide,by decide,?_⟩,fun x hx=>r x hx⟩
   have e1:i64.wrap (Int.tdiv (n:Int) 10)=((n/10:Nat):Int):=by
    have:Int.tdiv (n:Int) 10=((n/10:Nat):Int):=by rw[Int.tdiv_eq_ediv_of_nonneg (by omega)];omega
    rw[this,wr (by omega) (by omega)]
   have e2:Int.tmod (n:Int) 10=((n % 10:Nat):Int):=rfl
   rw[e1,e2]
   refine ih (n/10) (by omega) (by omega) fun s hs=>⟨?_,?_⟩
   ·have h1:s.size=(G.dec (n/10)).length:=by rw[<-hs];rfl
    have h2:(strOf [u8.wrap (i64.wrap (48+((n % 10:Nat):Int)))]).size=1:=by
     show(strOf [u8.wrap (i64.wrap (48+((n % 10:Nat):Int)))]).data.toList.length=1
     rw[Ax];rfl
    have:=G.sb 12 (n/10) (by omega)
    rw[h1,h2];omega
   ·show(s++strOf [u8.wrap (i64.wrap (48+((n % 10:Nat):Int)))]).data.toList=G.dec n
    rw[ByteArray.data_append,Array.toList_append,hs,Ax,G.dec.eq_def n,if_neg (show ¬n<10 by omega)]
section
variable {h0 h:ab} {C B:List Ck} {H:List Nat} {A:Option Addr} {n c:Nat} {l:List UInt8}
theorem jg {s:ByteArray} {K:Option Addr->Nat->ab->Prop} (Q:Sq h0 C h ([Ck.sl (eK .u8) 5 A n c (bI l)]++B)) (hd:Hd H B) (hn:n+s.size<=100000000)
  (R:∀sA sC h',Sq h0 C h' ([Ck.sl (eK .u8) 5 sA (n+s.size) sC (bI (l++s.data.toList))]++B)->Fr (ag A) h h'->K sA sC h'):
  ∃old,aC h 5 1 A n c old/\(∀b∈H,b∉ag A)/\(n+s.size)*1<=140737488355328/\(n+s.size)<=maxLen/\
   ∀sA sC h',aC h' 5 1 sA (n+s.size) sC (old++Lib.strCells s)->Fr (ag A) h h'->((sA=A/\sC=c)\/∃g,sA=some ⟨g,0,none⟩/\h.size<=g)->(c<(n+s.size)->Fr [] h h')->K sA sC h':=by
 have Y:=Q.sy
 refine⟨(eK .u8).l (bI l),Y.ownS 0 rfl,fun x hx=>?_,by omega,by unfold maxLen;omega,fun sA sC h' ow f g _=>?_⟩
 ·have:=(hd.apart Q x hx).2
  simpa[aA,Ck.sl]using this
 have e:Lib.strCells s=(eK .u8).l (bI s.data.toList):=(fC s).symm
 rw[e]at ow
 have Y1:=Y.appS 0 rfl (bI s.data.toList) ow f g rfl (by rw[fQ];rfl)
 refine R sA sC h' ⟨?_,fun x hx=>Q.ri x (by simpa[rds,Ck.sl]using hx)⟩ f
 rw[kj];exact Y1
theorem Sq.mark {a:Nat} (Q:Sq h0 C h ([Ck.sl (eK .u8) 5 (some ⟨a,0,none⟩) n c (bI l)]++B)):Sq h0 C (fN h a) ([Ck.sl (eK .u8) 5 (some ⟨a,0,none⟩) n c (bI l)]++B):=by
 obtain⟨ow,ln⟩:aC h 5 1 (some ⟨a,0,none⟩) n c ((eK .u8).l (bI l))/\_:=Q.sy.ok (k:=0) rfl
 have f:=qf h a
 refine⟨Q.sy.mut (k:=0) (c:=Ck.sl (eK .u8) 5 (some ⟨a,0,none⟩) n c (bI l)) rfl (Ck.sl (eK .u8) 5 (some ⟨a,0,none⟩) n c (bI l)) f.size (fun b hb hn=>f.blk b hb (by simpa[Ck.sl,ag]using hn)) ⟨⟨ow.1,?_⟩,ln⟩ (fun b hb=>.inl hb) (fun b hb=>by simp[Ck.sl]at hb),fun x hx=>Q.ri x (by simpa[rds,Ck.sl]using hx)⟩
 rcases ow.2 with q | ⟨g,cur,q1,q2,q3⟩
 ·exact .inl q
 ·obtain rfl:a=g:=by simpa using q1
  exact .inr ⟨a,cur,rfl,q2.mark,q3⟩
end
def sT (A:Option Addr) (n c:Nat) (l:List UInt8):List Ck:=[Ck.sl (eK .u8) 5 A n c (bI l)]
section
variable {gl:GL} {h:ab} {gA:Option Addr} {gL gC:Nat} {es:Es} {g k:Int} {up:Bool}
end
theorem Cf {n:Int} {es:Es} {dr:Bool} {ls:List ByteArray} {ss:List (Nat × Nat)} {ws:List Nat} {R:Bool->Prop} (r:∀b,(b=true->es.length<=300/\ls.length<=2000/\ss.length<=2000/\ws.length<=4000)->R b):DU n es dr ls ss ws R:=by
 apply E6
 unfold T17
 have no:R false:=r false (fun h=>by cases h)
 refine⟨fun _=>True,⟨fun _ i=>∃k:Nat,i=k/\k<=ls.length,fun _ i=>((ls.length:Int)-i).toNat,⟨0,rfl,by omega⟩,?_⟩,?_⟩
 ·rintro m _ ⟨k,rfl,hk⟩
  refine af (fun hlt=>af (fun h2=>⟨by omega,hlt,fun x hx=>?_⟩) fun _=>trivial) fun _=>trivial
  rw[wr (x:=(k:Int)+1) (by omega) (by omega)]
  exact⟨⟨k+1,by simp,by omega⟩,by grind⟩
 grind [af,uJ]
theorem Cg {n:Int} {es:Es} {dr:Bool} {ls:List ByteArray} {ss:List (Nat × Nat)} {ws:List Nat} {R:Bool->Prop} (hl:ls.length<=9223372036854775807) (r:R (du n es ls ss ws)):DV n es dr ls ss ws R:=by
 apply E7
 unfold T28
 have nb:∀{a b:Int},a≠0->a≠b->aU a b=false:=fun h1 h2=>by unfold aU;simp[h1,h2]
 have f2:aU (ls.length:Int) n=false->R false:=fun e=>by unfold du at r;grind
 have f3:aU (ss.length:Int) n=false->R false:=fun e=>by unfold du at r;grind
 have f4:aU (ws.length:Int) (es.length:Int)=false->R false:=fun e=>by unfold du at r;grind
 have y0:∀{a b:Int},a=0->aU a b=true:=fun h=>by unfold aU;simp[h]
 have y1:∀{a b:Int},a=b->aU a b=true:=fun h=>by unfold aU;simp[h]
 refine⟨dt n es=true/\aU (ls.length:Int) n=true/\aU (ss.length:Int) n=true/\aU (ws.length:Int) (es.length:Int)=true,uJ (bw (fun q=>?_) fun m=>?_),?_⟩
 ·unfold du at r;grind
 ·have w:aU (ls.length:Int) n=true->aU (ss.length:Int) n=true->cnd ((ws.length:Int) != 0) (cnd ((ws.length:Int) != (es.length:Int)) (R false) (dt n es=true/\aU (ls.length:Int) n=true/\aU (ss.length:Int) n=true/\aU (ws.length:Int) (es.length:Int)=true)) (dt n es=true/\aU (ls.length:Int) n=true/\aU (ss.length:Int) n=true/\aU (ws.length:Int) (es.length:Int)=true):=fun a b=>
   gQ (fun p=>gQ (fun p2=>f4 (nb p p2)) fun p2=>⟨m,a,b,y1 p2⟩) fun p=>⟨m,a,b,y0 p⟩
  have s:aU (ls.length:Int) n=true->cnd ((ss.length:Int) != 0) (cnd ((ss.length:Int) != n) (R false) (cnd ((ws.length:Int) != 0) (cnd ((ws.length:Int) != (es.length:Int)) (R false) (dt n es=true/\aU (ls.length:Int) n=true/\aU (ss.length:Int) n=true/\aU (ws.length:Int) (es.length:Int)=true)) (dt n es=true/\aU (ls.length:Int) n=true/\aU (ss.length:Int) n=true/\aU (ws.length:Int) (es.length:Int)=true)))
    (cnd ((ws.length:Int) != 0) (cnd ((ws.length:Int) != (es.length:Int)) (R false) (dt n es=true/\aU (ls.length:Int) n=true/\aU (ss.length:Int) n=true/\aU (ws.length:Int) (es.length:Int)=true)) (dt n es=true/\aU (ls.length:Int) n=true/\aU (ss.length:Int) n=true/\aU (ws.length:Int) (es.length:Int)=true)):=fun a=>
   gQ (fun p=>gQ (fun p2=>f3 (nb p p2)) fun p2=>w a (y1 p2)) fun p=>w a (y0 p)
  exact gQ (fun p=>gQ (fun p2=>f2 (nb p p2)) fun p2=>s (y1 p2)) fun p=>s (y0 p)
 ·rintro⟨a,b,c,d⟩
  have e:du n es ls ss ws=ls.all jh:=by unfold du;grind
  rw[e]at r
  refine⟨fun i=>∃k:Nat,i=k/\k<=ls.length/\(ls.take k).all jh=true,fun i=>((ls.length:Int)-i).toNat,⟨0,rfl,by omega,by simp⟩,?_⟩
  rintro _ ⟨k,rfl,hk,ha⟩
  refine af (fun hlt=>⟨by omega,hlt,fun x hx=>Ch (bw (fun q=>?_) fun q=>?_)⟩) fun hlt=>?_
  ·grind
  ·have hx:ls[k]? =some x:=by simpa using hx
   rw[wr (by omega) (by omega)]
   exact⟨⟨k+1,by simp,by omega,by rw[List.take_add_one,hx];simp[ha,q]⟩,by grind⟩
  grind
set_option maxHeartbeats 2000000
def S46 (ok:Bool) (atv ev:Int) (h:ab) (R Rp:VP):Prop:=∃a:LP,(cnd (!ok) (Rp (.iface 63 (.agg #[.int .i64 atv,.int .i64 ev])) h) (a [] h))/\∀b,a [] b->R (.tuple #[]) b
theorem sM {h:ab} {R Rp:VP} (ok:Bool) (atv ev:Int) (H:S46 ok atv ev h R Rp):az Tryz.prog 46 #[.bool ok,.int .i64 atv,.int .i64 ev] h R Rp:=dw [] 12 [] [(7,⟨[],[],[],[]⟩)] [] [] Tryz.func46 (by kernel_rfl) (by kernel_rfl) H
def Da (c:Int) (h:ab) (R:VP):Prop:=cnd (c==32) (R (.bool true) h) (cnd (c==9) (R (.bool true) h) (cnd (c==10) (R (.bool true) h) (R (.bool (c==13)) h)))
theorem vj {h:ab} {R:VP} (c:Int) (H:Da c h R):ae Tryz.prog 180 #[.int .u8 c] h R:=aR [] 17 [] [] [] [] Tryz.func180 (by kernel_rfl) (by kernel_rfl) H
def Db (c:Int) (h:ab) (R:VP):Prop:=cnd (decide (c>=97)) (cnd (decide (c<=122)) (R (.bool true) h) (cnd (decide (c>=65)) (cnd (decide (c<=90)) (R (.bool true) h) (R (.bool (c==95)) h)) (R (.bool (c==95)) h))) (cnd (decide (c>=65)) (cnd (decide (c<=90)) (R (.bool true) h) (R (.bool (c==95)) h)) (R (.bool (c==95)) h))
theorem vk {h:ab} {R:VP} (c:Int) (H:Db c h R):ae Tryz.prog 181 #[.int .u8 c] h R:=aR [] 21 [] [] [] [] Tryz.func181 (by kernel_rfl) (by kernel_rfl) H
def Dd (c:Int) (h:ab) (R:VP):Prop:=ai Tryz.prog 181 #[.int .u8 c] h [] fun d a=>∃b:Bool,d= .bool b/\cnd b (R (.bool true) a) (cnd (decide (c>=48)) (cnd (decide (c<=57)) (R (.bool true) a) (cnd (c==46) (R (.bool true) a) (cnd (c==58) (R (.bool true) a) (R (.bool (c==45)) a)))) (cnd (c==46) (R (.bool true) a) (cnd (c==58) (R (.bool true) a) (R (.bool (c==45)) a))))
theorem vl {h:ab} {R:VP} (c:Int) (H:Dd c h R):ae Tryz.prog 182 #[.int .u8 c] h R:=aR [] 25 [] [] [] [] Tryz.func182 (by kernel_rfl) (by kernel_rfl) H
def De (c:Int) (h:ab) (R:VP):Prop:=cnd (decide (c>=32)) (R (.bool (decide (c<=126))) h) (R (.bool false) h)
theorem vm {h:ab} {R:VP} (c:Int) (H:De c h R):ae Tryz.prog 230 #[.int .u8 c] h R:=aR [] 9 [] [] [] [] Tryz.func230 (by kernel_rfl) (by kernel_rfl) H
def Df (c:Int) (h:ab) (R:VP):Prop:=ai Tryz.prog 230 #[.int .u8 c] h [] fun d a=>∃b:Bool,d= .bool b/\cnd b (R (.bool (c != 60)) a) (R (.bool false) a)
theorem vn {h:ab} {R:VP} (c:Int) (H:Df c h R):ae Tryz.prog 229 #[.int .u8 c] h R:=aR [] 9 [] [] [] [] Tryz.func229 (by kernel_rfl) (by kernel_rfl) H
def Dg (c:Int) (h:ab) (R:VP):Prop:=ai Tryz.prog 230 #[.int .u8 c] h [] fun f a=>∃b:Bool,f= .bool b/\cnd b (R (.bool true) a) (ai Tryz.prog 180 #[.int .u8 c] a [] fun g e=>∃d:Bool,g= .bool d/\R (.bool d) e)
theorem vo {h:ab} {R:VP} (c:Int) (H:Dg c h R):ae Tryz.prog 330 #[.int .u8 c] h R:=aR [] 9 [] [] [] [] Tryz.func330 (by kernel_rfl) (by kernel_rfl) H
def Dh (xP:Option Addr) (c:Int) (h:ab) (R:VP):Prop:=∃b o,xP=some ⟨b,o,none⟩/\∃e:Int,ac h b (o+1)=some (.int .i64 e)/\∃b2 o2,xP=some ⟨b2,o2,none⟩/\∃f:ByteArray,ac h b2 o2=some (.string f)/\cnd (decide (e<(f.size:Int))) (∃b3 o3,xP=some ⟨b3,o3,none⟩/\∃d:ByteArray,ac h b3 o3=some (.string d)/\∃b4 o4,xP=some ⟨b4,o4,none⟩/\∃a:Int,ac h b4 (o4+1)=some (.int .i64 a)/\0<=a/\a<(d.size:Int)/\∃g:UInt8,d[Int.toNat a]? =some g/\R (.bool ((UInt8.toNat g:Int)==c)) h) (R (.bool false) h)
theorem vq {h:ab} {R:VP} (xP:Option Addr) (c:Int) (H:Dh xP c h R):ae Tryz.prog 137 #[.pointer xP,.int .u8 c] h R:=aR [] 28 [] [] [] [(1,⟨24,false⟩)] Tryz.func137 (by kernel_rfl) (by kernel_rfl) H
def Di (xP:Option Addr) (c:Int) (h:ab) (R Rp:VP):Prop:=∃b o,xP=some ⟨b,o,none⟩/\∃f:Int,ac h b (o+1)=some (.int .i64 f)/\ai Tryz.prog 137 #[.pointer xP,.int .u8 c] h [] fun k d=>∃e:Bool,k= .bool e/\Fr [] h d/\aw Tryz.prog 46 #[.bool e,.int .i64 f,.int .i64 15] d [] (fun l a=>l= .tuple #[]/\Fr [] h a/\∃b2 o2,xP=some ⟨b2,o2,none⟩/\∃g:Int,ac a b2 (o2+1)=some (.int .i64 g)/\∃b3 o3,xP=some ⟨b3,o3,none⟩/\(∃j,ac a b3 (o3+1)=some j)/\aq a b3 (o3+1)=true/\let i:ab:=am a b3 (o3+1) (.int .i64 (i64.wrap (g+1)));R (.tuple #[]) i) Rp
theorem vr {h:ab} {R Rp:VP} (xP:Option Addr) (c:Int) (H:Di xP c h R Rp):az Tryz.prog 136 #[.pointer xP,.int .u8 c] h R Rp:=dw [] 19 [] [] [] [(0,⟨8,false⟩)] Tryz.func136 (by kernel_rfl) (by kernel_rfl) H
def Dj (xP:Option Addr) (h:ab) (R:VP):Prop:=∃b o,xP=some ⟨b,o,none⟩/\∃m:Int,ac h b (o+1)=some (.int .i64 m)/\let g:=fun(j:ab)=>(∃b8 o8,xP=some ⟨b8,o8,none⟩/\∃r:Int,ac j b8 (o8+1)=some (.int .i64 r)/\R (.bool (decide (r>m))) j);∃(e:LP) (k:List Value->ab->Nat),e [] h/\∀a,e [] a->∃b2 o2,xP=some ⟨b2,o2,none⟩/\∃n:Int,ac a b2 (o2+1)=some (.int .i64 n)/\∃b3 o3,xP=some ⟨b3,o3,none⟩/\∃p:ByteArray,ac a b3 o3=some (.string p)/\cnd (decide (n<(p.size:Int))) (∃b4 o4,xP=some ⟨b4,o4,none⟩/\∃f:ByteArray,ac a b4 o4=some (.string f)/\∃b5 o5,xP=some ⟨b5,o5,none⟩/\∃d:Int,ac a b5 (o5+1)=some (.int .i64 d)/\0<=d/\d<(f.size:Int)/\∃s:UInt8,f[Int.toNat d]? =some s/\ai Tryz.prog 180 #[.int .u8 (UInt8.toNat s:Int)] a [] fun u c=>∃l:Bool,u= .bool l/\Fr [] a c/\cnd l (∃b6 o6,xP=some ⟨b6,o6,none⟩/\∃q:Int,ac c b6 (o6+1)=some (.int .i64 q)/\∃b7 o7,xP=some ⟨b7,o7,none⟩/\(∃t,ac c b7 (o7+1)=some t)/\aq c b7 (o7+1)=true/\let i:ab:=am c b7 (o7+1) (.int .i64 (i64.wrap (q+1)));e [] i/\k [] i<k [] a) (g c)) (Fr [] a a/\g a)
theorem vt {h:ab} {R:VP} (xP:Option Addr) (H:Dj xP h R):ae Tryz.prog 135 #[.pointer xP] h R:=aR [] 43 [(0,⟨[0,3],[],[],[]⟩)] [] [] [(2,⟨22,false⟩)] Tryz.func135 (by kernel_rfl) (by kernel_rfl) H
def Dk (xP:Option Addr) (h:ab) (R Rp:VP):Prop:=let n:=fun(t:ab)=>(∃b7 o7,xP=some ⟨b7,o7,none⟩/\∃g:Int,ac t b7 (o7+1)=some (.int .i64 g)/\let p:=fun(j:ab)=>(∃b14 o14,xP=some ⟨b14,o14,none⟩/\∃l:ByteArray,ac j b14 o14=some (.string l)/\∃b15 o15,xP=some ⟨b15,o15,none⟩/\∃d:Int,ac j b15 (o15+1)=some (.int .i64 d)/\0<=d/\d<=(l.size:Int)/\0<=g/\g<=((Int.toNat d):Int)/\R (.string (l.extract (Int.toNat g) (Int.toNat d))) j);∃(i:LP) (v:List Value->ab->Nat),i [] t/\∀a,i [] a->∃b8 o8,xP=some ⟨b8,o8,none⟩/\∃D:Int,ac a b8 (o8+1)=some (.int .i64 D)/\∃b9 o9,xP=some ⟨b9,o9,none⟩/\∃E:ByteArray,ac a b9 o9=some (.string E)/\cnd (decide (D<(E.size:Int))) (∃b10 o10,xP=some ⟨b10,o10,none⟩/\∃k:ByteArray,ac a b10 o10=some (.string k)/\∃b11 o11,xP=some ⟨b11,o11,none⟩/\∃e:Int,ac a b11 (o11+1)=some (.int .i64 e)/\0<=e/\e<(k.size:Int)/\∃G:UInt8,k[Int.toNat e]? =some G/\ai Tryz.prog 182 #[.int .u8 (UInt8.toNat G:Int)] a [] fun L c=>∃x:Bool,L= .bool x/\Fr [] a c/\cnd x (∃b12 o12,xP=some ⟨b12,o12,none⟩/\∃z:Int,ac c b12 (o12+1)=some (.int .i64 z)/\∃b13 o13,xP=some ⟨b13,o13,none⟩/\(∃H,ac c b13 (o13+1)=some H)/\aq c b13 (o13+1)=true/\let u:ab:=am c b13 (o13+1) (.int .i64 (i64.wrap (z+1)));i [] u/\v [] u<v [] a) (p c)) (Fr [] a a/\p a));∃b o,xP=some ⟨b,o,none⟩/\∃y:Int,ac h b (o+1)=some (.int .i64 y)/\∃b2 o2,xP=some ⟨b2,o2,none⟩/\∃A:ByteArray,ac h b2 o2=some (.string A)/\cnd (decide (y<(A.size:Int))) (∃b3 o3,xP=some ⟨b3,o3,none⟩/\∃m:ByteArray,ac h b3 o3=some (.string m)/\∃b4 o4,xP=some ⟨b4,o4,none⟩/\∃f:Int,ac h b4 (o4+1)=some (.int .i64 f)/\0<=f/\f<(m.size:Int)/\∃F:UInt8,m[Int.toNat f]? =some F/\∃b5 o5,xP=some ⟨b5,o5,none⟩/\∃B:Int,ac h b5 (o5+1)=some (.int .i64 B)/\ai Tryz.prog 181 #[.int .u8 (UInt8.toNat F:Int)] h [] fun I q=>∃w:Bool,I= .bool w/\Fr [] h q/\aw Tryz.prog 46 #[.bool w,.int .i64 B,.int .i64 15] q [] (fun J r=>J= .tuple #[]/\Fr [] h r/\n r) Rp) (∃b6 o6,xP=some ⟨b6,o6,none⟩/\∃C:Int,ac h b6 (o6+1)=some (.int .i64 C)/\Fr [] h h/\aw Tryz.prog 46 #[.bool false,.int .i64 C,.int .i64 15] h [] (fun K s=>K= .tuple #[]/\Fr [] h s/\n s) Rp)
theorem vu {h:ab} {R Rp:VP} (xP:Option Addr) (H:Dk xP h R Rp):az Tryz.prog 138 #[.pointer xP] h R Rp:=dw [] 74 [(0,⟨[0,3],[],[],[]⟩)] [] [] [(1,⟨27,false⟩),(3,⟨22,false⟩),(5,⟨11,false⟩)] Tryz.func138 (by kernel_rfl) (by kernel_rfl) H
def Dl (s:ByteArray) (h:ab) (R:VP):Prop:=let F:ab:=h.push (.cells #[.string ⟨#[38,97,109,112,59]⟩,.string ⟨#[38,113,117,111,116,59]⟩,.string ⟨#[38,108,116,59]⟩,.string ⟨#[38,103,116,59]⟩,.string ⟨#[38,97,112,111,115,59]⟩] 9);∃(k:LP) (w:List Value->ab->Nat),k [.int .i64 0] F/\∀c:Int,∀g,k [.int .i64 c] g->cnd (decide (c<(5:Int))) (∃b o,(some (⟨h.size,0,none⟩:Addr))=some ⟨b,o,none⟩/\0<=c/\c<(5:Nat)/\∃q:ByteArray,ac g b (o+(Int.toNat c)*1)=some (.string q)/\ai Tryz.prog 130 #[.string s,.string q] g [] fun I n=>∃y:Bool,I= .bool y/\cnd y (0<=c/\c<((⟨#[38,34,60,62,39]⟩:ByteArray).size:Int)/\∃B:UInt8,(⟨#[38,34,60,62,39]⟩:ByteArray)[Int.toNat c]? =some B/\R (.tuple #[.int .u8 (UInt8.toNat B:Int),.int .i64 (q.size:Int)]) n) (k [.int .i64 (i64.wrap (c+1))] n/\w [.int .i64 (i64.wrap (c+1))] n<w [.int .i64 c] g)) (ai Tryz.prog 130 #[.string s,.string ⟨#[38,35]⟩] g [] fun J u=>∃z:Bool,J= .bool z/\cnd (!z) (R (.tuple #[.int .u8 0,.int .i64 0]) u) (let t:=fun(p:Int) (e:Int) (i:ab)=>(let j:=fun(H:ab)=>(R (.tuple #[.int .u8 0,.int .i64 0]) H);cnd (e==2) (j i) (cnd (e==(s.size:Int)) (j i) (0<=e/\e<(s.size:Int)/\∃E:UInt8,s[Int.toNat e]? =some E/\cnd ((UInt8.toNat E:Int) != (59:Int)) (j i) (cnd (decide (p>126)) (j i) (ai Tryz.prog 230 #[.int .u8 (u8.wrap p)] i [] fun K v=>∃A:Bool,K= .bool A/\cnd (!A) (R (.tuple #[.int .u8 0,.int .i64 0]) v) (R (.tuple #[.int .u8 (u8.wrap p),.int .i64 (i64.wrap (e+1))]) v))))));∃(l:LP) (x:List Value->ab->Nat),l [.int .i64 0,.int .i64 2] u/\∀f:Int,∀a:Int,∀d,l [.int .i64 f,.int .i64 a] d->let m:=fun(G:ab)=>(t f a G);cnd (decide (a<(s.size:Int))) (cnd (decide (a<5)) (0<=a/\a<(s.size:Int)/\∃C:UInt8,s[Int.toNat a]? =some C/\cnd (decide ((UInt8.toNat C:Int)>=(48:Int))) (0<=a/\a<(s.size:Int)/\∃D:UInt8,s[Int.toNat a]? =some D/\cnd (decide ((UInt8.toNat D:Int)<=(57:Int))) (0<=a/\a<(s.size:Int)/\∃r:UInt8,s[Int.toNat a]? =some r/\l [.int .i64 (i64.wrap ((i64.wrap ((10:Int)*f))+(i64.wrap (u8.wrap ((UInt8.toNat r:Int)-(48:Int)))))),.int .i64 (i64.wrap (a+1))] d/\x [.int .i64 (i64.wrap ((i64.wrap ((10:Int)*f))+(i64.wrap (u8.wrap ((UInt8.toNat r:Int)-(48:Int)))))),.int .i64 (i64.wrap (a+1))] d<x [.int .i64 f,.int .i64 a] d) (t f a d)) (m d)) (m d)) (m d)))
theorem vv {h:ab} {R:VP} (s:ByteArray) (H:Dl s h R):ae Tryz.prog 287 #[.string s] h R:=aR [] 84 [(0,⟨[0,8,9],[10],[],[]⟩),(2,⟨[0],[6,7],[],[]⟩)] [] [] [] Tryz.func287 (by kernel_rfl) (by kernel_rfl) H
def Dm (xP:Option Addr) (ends:ByteArray) (mayF:Fn) (mayX mayY:Array Value) (h:ab) (R Rp:VP):Prop:=∃(q:LP) (D:List Value->ab->Nat),q [.slice none 0 0] h/\∀(c:Option Addr) (a f:Nat),∀e,q [.slice c a f] e->∃b o,xP=some ⟨b,o,none⟩/\∃I:Int,ac e b (o+1)=some (.int .i64 I)/\∃b2 o2,xP=some ⟨b2,o2,none⟩/\∃K:ByteArray,ac e b2 o2=some (.string K)/\cnd (decide (I<(K.size:Int))) (∃b3 o3,xP=some ⟨b3,o3,none⟩/\∃B:ByteArray,ac e b3 o3=some (.string B)/\∃b4 o4,xP=some ⟨b4,o4,none⟩/\∃m:Int,ac e b4 (o4+1)=some (.int .i64 m)/\0<=m/\m<(B.size:Int)/\∃g:UInt8,B[Int.toNat m]? =some g/\ai Tryz.prog 256 #[.string ends,.int .u8 (UInt8.toNat g:Int)] e [] fun S d=>∃G:Int,S= .int .i64 G/\cnd (decide (G>=0)) (∃O:List Int,Reads d 1 c a (List.map (Value.int IntKind.u8) O)/\R (.tuple #[.string (strOf O),.bool true]) d) (∃r:LP,(cnd ((UInt8.toNat g:Int)==(38:Int)) (∃b5 o5,xP=some ⟨b5,o5,none⟩/\∃n:ByteArray,ac d b5 o5=some (.string n)/\∃b6 o6,xP=some ⟨b6,o6,none⟩/\∃p:Int,ac d b6 (o6+1)=some (.int .i64 p)/\0<=p/\p<=(n.size:Int)/\ai Tryz.prog 287 #[.string (n.extract (Int.toNat p) n.size)] d [] fun T t=>∃y:Int,∃z:Int,T= .tuple #[.int .u8 y,.int .i64 z]/\Fr [] d t/\∃b7 o7,xP=some ⟨b7,o7,none⟩/\∃L:Int,ac t b7 (o7+1)=some (.int .i64 L)/\aw Tryz.prog 46 #[.bool (decide (z>0)),.int .i64 L,.int .i64 15] t [] (fun U u=>U= .tuple #[]/\let k:ab:=u.push (.cells #[.int .u8 y] 5);fD 5 1 1 [u.size] k c a f 1 [.int .u8 y] fun sA sC hv6=>∃b8 o8,xP=some ⟨b8,o8,none⟩/\∃M:Int,ac hv6 b8 (o8+1)=some (.int .i64 M)/\∃b9 o9,xP=some ⟨b9,o9,none⟩/\b9≠u.size/\(∃A,ac hv6 b9 (o9+1)=some A)/\aq hv6 b9 (o9+1)=true/\let Q:ab:=am hv6 b9 (o9+1) (.int .i64 (i64.wrap (M+z)));r [.slice sA (a+1) sC] Q) Rp) (∃b10 o10,xP=some ⟨b10,o10,none⟩/\∃N:Int,ac d b10 (o10+1)=some (.int .i64 N)/\iD Tryz.prog lR lU (some Rp) mayF mayX mayY [.int .u8 (UInt8.toNat g:Int)] d [] fun V C=>∃H:Bool,V= .bool H/\Fr [] d C/\aw Tryz.prog 46 #[.bool H,.int .i64 N,.int .i64 15] C [] (fun W l=>W= .tuple #[]/\Fr [] d l/\let j:ab:=l.push (.cells #[.int .u8 (UInt8.toNat g:Int)] 5);fD 5 1 1 [l.size] j c a f 1 [.int .u8 (UInt8.toNat g:Int)] fun sA2 sC2 hv11=>∃b11 o11,xP=some ⟨b11,o11,none⟩/\∃J:Int,ac hv11 b11 (o11+1)=some (.int .i64 J)/\∃b12 o12,xP=some ⟨b12,o12,none⟩/\b12≠l.size/\(∃A,ac hv11 b12 (o12+1)=some A)/\aq hv11 b12 (o12+1)=true/\let P:ab:=am hv11 b12 (o12+1) (.int .i64 (i64.wrap (J+1)));r [.slice sA2 (a+1) sC2] P) Rp))/\∀(v:Option Addr) (x w:Nat),∀s,r [.slice v x w] s->q [.slice v x w] s/\D [.slice v x w] s<D [.slice c a f] e)) (R (.tuple #[.string ⟨#[]⟩,.bool false]) e)
theorem vz {h:ab} {R Rp:VP} (xP:Option Addr) (ends:ByteArray) (mayF:Fn) (mayX mayY:Array Value) (H:Dm xP ends mayF mayX mayY h R Rp):az Tryz.prog 228 #[.pointer xP,.string ends,.func mayF mayX mayY] h R Rp:=dw [41,82] 92 [(0,⟨[0,1,2],[8],[],[]⟩)] [(57,⟨[0,1,2],[8],[],[]⟩)] [] [(2,⟨10,false⟩),(3,⟨10,false⟩),(10,⟨15,false⟩),(4,⟨8,false⟩)] Tryz.func228 (by kernel_rfl) (by kernel_rfl) H
def Dn (xP aheadA:Option Addr) (aheadL aheadC:Nat) (h:ab) (R Rp:VP):Prop:=let u:ab:=h.push (.cells #[.string ByteArray.empty,.string ByteArray.empty,.int .i64 0] 230);∃b o,xP=some ⟨b,o,none⟩/\∃E:Int,ac u b (o+1)=some (.int .i64 E)/\aw Tryz.prog 138 #[.pointer xP] u [h.size] (fun V a=>∃g:ByteArray,V= .string g/\let Q:ab:=a.push (.cells #[.string ByteArray.empty,.string ByteArray.empty,.int .i64 0] 230);let S:ab:=am (am (am Q a.size 0 (.string g)) a.size (0+1) (.string ByteArray.empty)) a.size ((0+1)+1) (.int .i64 0);∃(n:LP) (A:List Value->ab->Nat),n [.int .i64 0] S/\∀d:Int,∀c,n [.int .i64 d] c->cnd (decide (d<(aheadL:Int))) (∃b2 o2,aheadA=some ⟨b2,o2,none⟩/\0<=d/\d<(aheadL:Nat)/\∃q:ByteArray,ac c b2 (o2+(Int.toNat d)*3)=some (.string q)/\∃H:ByteArray,ac c b2 ((o2+(Int.toNat d)*3)+1)=some (.string H)/\∃I:Int,ac c b2 (((o2+(Int.toNat d)*3)+1)+1)=some (.int .i64 I)/\let T:ab:=c.push (.cells #[.string ByteArray.empty,.string ByteArray.empty,.int .i64 0] 230);let U:ab:=am (am (am T c.size 0 (.string q)) c.size (0+1) (.string H)) c.size ((0+1)+1) (.int .i64 I);aw Tryz.prog 46 #[.bool (!(q.toList==g.toList)),.int .i64 E,.int .i64 18] U [c.size,h.size,a.size] (fun W z=>W= .tuple #[]/\n [.int .i64 (i64.wrap (d+1))] z/\A [.int .i64 (i64.wrap (d+1))] z<A [.int .i64 d] c) Rp) (aw Tryz.prog 136 #[.pointer xP,.int .u8 61] c [h.size,a.size] (fun X f=>X= .tuple #[]/\let t:=fun(e:ab)=>(∃b4 o4,xP=some ⟨b4,o4,none⟩/\∃J:Int,ac e b4 (o4+1)=some (.int .i64 J)/\∃b5 o5,xP=some ⟨b5,o5,none⟩/\∃s:ByteArray,ac e b5 o5=some (.string s)/\∃b6 o6,xP=some ⟨b6,o6,none⟩/\∃m:Int,ac e b6 (o6+1)=some (.int .i64 m)/\0<=m/\m<(s.size:Int)/\∃K:UInt8,s[Int.toNat m]? =some K/\∃b7 o7,xP=some ⟨b7,o7,none⟩/\∃F:Int,ac e b7 (o7+1)=some (.int .i64 F)/\∃b8 o8,xP=some ⟨b8,o8,none⟩/\b8≠h.size/\b8≠a.size/\(∃p,ac e b8 (o8+1)=some p)/\aq e b8 (o8+1)=true/\let y:ab:=am e b8 (o8+1) (.int .i64 (i64.wrap (F+1)));∃b9 o9,xP=some ⟨b9,o9,none⟩/\∃l:Int,ac y b9 (o9+1)=some (.int .i64 l)/\let L:ab:=am y a.size 2 (.int .i64 l);aw Tryz.prog 228 #[.pointer xP,.string (Utf8.encode (UInt8.toNat K:Int)),.func (.func 229) #[] #[]] L [h.size,a.size] (fun a2 M=>∃k:ByteArray,∃D:Bool,a2= .tuple #[.string k,.bool D]/\aw Tryz.prog 46 #[.bool D,.int .i64 J,.int .i64 15] M [h.size,a.size] (fun a3 j=>a3= .tuple #[]/\∃b10 o10,xP=some ⟨b10,o10,none⟩/\∃G:Int,ac j b10 (o10+1)=some (.int .i64 G)/\∃b11 o11,xP=some ⟨b11,o11,none⟩/\b11≠h.size/\b11≠a.size/\(∃p,ac j b11 (o11+1)=some p)/\aq j b11 (o11+1)=true/\let N:ab:=am j b11 (o11+1) (.int .i64 (i64.wrap (G+1)));let O:ab:=am N a.size 1 (.string k);let P:ab:=am (am (am O h.size 0 (.string g)) h.size (0+1) (.string k)) h.size ((0+1)+1) (.int .i64 l);R (.agg #[.string g,.string k,.int .i64 l]) P) Rp) Rp);∃b3 o3,xP=some ⟨b3,o3,none⟩/\∃r:Int,ac f b3 (o3+1)=some (.int .i64 r)/\ai Tryz.prog 137 #[.pointer xP,.int .u8 34] f [h.size,a.size] fun Y i=>∃B:Bool,Y= .bool B/\Fr [] f i/\cnd B (Fr [] f i/\aw Tryz.prog 46 #[.bool true,.int .i64 r,.int .i64 15] i [h.size,a.size] (fun Z v=>Z= .tuple #[]/\Fr [] f v/\t v) Rp) (ai Tryz.prog 137 #[.pointer xP,.int .u8 39] i [h.size,a.size] fun a0 w=>∃C:Bool,a0= .bool C/\Fr [] f w/\aw Tryz.prog 46 #[.bool C,.int .i64 r,.int .i64 15] w [h.size,a.size] (fun a1 x=>a1= .tuple #[]/\Fr [] f x/\t x) Rp)) Rp)) Rp
theorem vA {h:ab} {R Rp:VP} (xP aheadA:Option Addr) (aheadL aheadC:Nat) (H:Dn xP aheadA aheadL aheadC h R Rp):az Tryz.prog 183 #[.pointer xP,.slice aheadA aheadL aheadC] h R Rp:=dw [4,6,8] 92 [(0,⟨[0,4,5,6,20,21],[22],[4,6],[]⟩)] [] [] [(9,⟨11,false⟩),(10,⟨15,false⟩)] Tryz.func183 (by kernel_rfl) (by kernel_rfl) H
def Dp (tP:Option Addr) (name:ByteArray) (h:ab) (R:VP):Prop:=∃b o,tP=some ⟨b,o,none⟩/\∃(m:Option Addr) (j n:Nat),ac h b (o+3)=some (.slice m j n)/\∃(d:LP) (e:List Value->ab->Nat),d [.int .i64 0] h/\∀a:Int,∀c,d [.int .i64 a] c->cnd (decide (a<(j:Int))) (∃b2 o2,tP=some ⟨b2,o2,none⟩/\∃(g:Option Addr) (k p:Nat),ac c b2 (o2+3)=some (.slice g k p)/\∃b3 o3,g=some ⟨b3,o3,none⟩/\0<=a/\a<(k:Nat)/\∃f:ByteArray,ac c b3 (o3+(Int.toNat a)*3)=some (.string f)/\cnd (f.toList==name.toList) (∃b4 o4,tP=some ⟨b4,o4,none⟩/\∃(i:Option Addr) (l q:Nat),ac c b4 (o4+3)=some (.slice i l q)/\∃b5 o5,i=some ⟨b5,o5,none⟩/\0<=a/\a<(l:Nat)/\R (.pointer (some (⟨b5,(o5+(Int.toNat a)*3),none⟩:Addr))) c) (d [.int .i64 (i64.wrap (a+1))] c/\e [.int .i64 (i64.wrap (a+1))] c<e [.int .i64 a] c)) (R (.pointer none) c)
theorem vB {h:ab} {R:VP} (tP:Option Addr) (name:ByteArray) (H:Dp tP name h R):ae Tryz.prog 185 #[.pointer tP,.string name] h R:=aR [] 31 [(0,⟨[0,1,10],[11],[],[]⟩)] [] [] [] Tryz.func185 (by kernel_rfl) (by kernel_rfl) H
def Dq (tP namesA:Option Addr) (namesL namesC:Nat) (h:ab) (R Rp:VP):Prop:=∃(d:LP) (g:List Value->ab->Nat),d [.int .i64 0] h/\∀c:Int,∀a,d [.int .i64 c] a->cnd (decide (c<(namesL:Int))) (∃b o,namesA=some ⟨b,o,none⟩/\0<=c/\c<(namesL:Nat)/\∃j:ByteArray,ac a b (o+(Int.toNat c)*1)=some (.string j)/\∃b2 o2,tP=some ⟨b2,o2,none⟩/\∃k:Int,ac a b2 (o2+1)=some (.int .i64 k)/\ai Tryz.prog 185 #[.pointer tP,.string j] a [] fun l f=>∃i:Option Addr,l= .pointer i/\Fr [] a f/\aw Tryz.prog 46 #[.bool (!(Option.isNone i)),.int .i64 k,.int .i64 14] f [] (fun m e=>m= .tuple #[]/\Fr [] a e/\d [.int .i64 (i64.wrap (c+1))] e/\g [.int .i64 (i64.wrap (c+1))] e<g [.int .i64 c] a) Rp) (R (.tuple #[]) a)
theorem vC {h:ab} {R Rp:VP} (tP namesA:Option Addr) (namesL namesC:Nat) (H:Dq tP namesA namesL namesC h R Rp):az Tryz.prog 184 #[.pointer tP,.slice namesA namesL namesC] h R Rp:=dw [] 22 [(0,⟨[0,6,7],[8],[],[]⟩)] [] [] [(3,⟨9,false⟩)] Tryz.func184 (by kernel_rfl) (by kernel_rfl) H
def Dr (xP tP:Option Addr) (h:ab) (R Rp:VP):Prop:=∃(m:LP) (v:List Value->ab->Nat),m [] h/\∀n,m [] n->ai Tryz.prog 135 #[.pointer xP] n [] fun K G=>∃x:Bool,K= .bool x/\ai Tryz.prog 137 #[.pointer xP,.int .u8 62] G [] fun L i=>∃y:Bool,L= .bool y/\cnd y (∃b o,xP=some ⟨b,o,none⟩/\∃A:Int,ac i b (o+1)=some (.int .i64 A)/\∃b2 o2,xP=some ⟨b2,o2,none⟩/\(∃a,ac i b2 (o2+1)=some a)/\aq i b2 (o2+1)=true/\let H:ab:=am i b2 (o2+1) (.int .i64 (i64.wrap (A+1)));R (.tuple #[]) H) (ai Tryz.prog 137 #[.pointer xP,.int .u8 47] i [] fun M e=>∃z:Bool,M= .bool z/\cnd z (∃b3 o3,xP=some ⟨b3,o3,none⟩/\∃B:Int,ac e b3 (o3+1)=some (.int .i64 B)/\∃b4 o4,xP=some ⟨b4,o4,none⟩/\(∃a,ac e b4 (o4+1)=some a)/\aq e b4 (o4+1)=true/\let I:ab:=am e b4 (o4+1) (.int .i64 (i64.wrap (B+1)));aw Tryz.prog 136 #[.pointer xP,.int .u8 62] I [] (fun N p=>N= .tuple #[]/\∃b5 o5,tP=some ⟨b5,o5,none⟩/\(∃a,ac p b5 (o5+4)=some a)/\aq p b5 (o5+4)=true/\let J:ab:=am p b5 (o5+4) (.bool true);R (.tuple #[]) J) Rp) (∃b6 o6,xP=some ⟨b6,o6,none⟩/\∃C:Int,ac e b6 (o6+1)=some (.int .i64 C)/\aw Tryz.prog 46 #[.bool x,.int .i64 C,.int .i64 15] e [] (fun O f=>O= .tuple #[]/\∃d:List Nat,(∀b∈([]:List Nat),b∉d)/\∃b7 o7,tP=some ⟨b7,o7,none⟩/\b7∉d/\∃(j:Option Addr) (c l:Nat),ac f b7 (o7+3)=some (.slice j c l)/\∃b8 o8,tP=some ⟨b8,o8,none⟩/\b8∉d/\∃(D:Option Addr) (F E:Nat),ac f b8 (o8+3)=some (.slice D F E)/\aw Tryz.prog 183 #[.pointer xP,.slice D F E] f [] (fun P k=>∃q:ByteArray,∃r:ByteArray,∃s:Int,P= .agg #[.string q,.string r,.int .i64 s]/\Fr d f k/\let g:ab:=k.push (.cells #[.string q,.string r,.int .i64 s] 230);Fr d f g/\fD 230 3 40 [k.size] g j c l 1 [.string q,.string r,.int .i64 s] fun sA sC hv12=>Fr d f hv12/\∃b9 o9,tP=some ⟨b9,o9,none⟩/\b9≠k.size/\(∃a,ac hv12 b9 (o9+3)=some a)/\aq hv12 b9 (o9+3)=true/\let u:ab:=am hv12 b9 (o9+3) (.slice sA (c+1) sC);m [] u/\v [] u<v [] n) Rp) Rp))
theorem vD {h:ab} {R Rp:VP} (xP tP:Option Addr) (H:Dr xP tP h R Rp):az Tryz.prog 139 #[.pointer xP,.pointer tP] h R Rp:=dw [49] 53 [(0,⟨[0,1],[],[],[]⟩)] [] [] [(8,⟨13,true⟩)] Tryz.func139 (by kernel_rfl) (by kernel_rfl) H
def Ds (xP:Option Addr) (name:ByteArray) (h:ab) (R Rp:VP):Prop:=aw Tryz.prog 136 #[.pointer xP,.int .u8 47] h [] (fun k a=>k= .tuple #[]/\∃b o,xP=some ⟨b,o,none⟩/\∃d:Int,ac a b (o+1)=some (.int .i64 d)/\aw Tryz.prog 138 #[.pointer xP] a [] (fun l e=>∃c:ByteArray,l= .string c/\aw Tryz.prog 46 #[.bool (c.toList==name.toList),.int .i64 d,.int .i64 15] e [] (fun m f=>m= .tuple #[]/\ai Tryz.prog 135 #[.pointer xP] f [] fun n g=>∃j:Bool,n= .bool j/\aw Tryz.prog 136 #[.pointer xP,.int .u8 62] g [] (fun p i=>p= .tuple #[]/\R (.tuple #[]) i) Rp) Rp) Rp) Rp
theorem vE {h:ab} {R Rp:VP} (xP:Option Addr) (name:ByteArray) (H:Ds xP name h R Rp):az Tryz.prog 140 #[.pointer xP,.string name] h R Rp:=dw [] 21 [] [] [] [] Tryz.func140 (by kernel_rfl) (by kernel_rfl) H
def S93 (xP:Option Addr) (h:ab) (R Rp:VP):Prop:=∃(i:LP) (p:List Value->ab->Nat),i [] h/\∀j,i [] j->ai Tryz.prog 135 #[.pointer xP] j [] fun A a=>∃z:Bool,A= .bool z/\∃b o,xP=some ⟨b,o,none⟩/\∃r:Int,ac a b (o+1)=some (.int .i64 r)/\∃b2 o2,xP=some ⟨b2,o2,none⟩/\∃s:ByteArray,ac a b2 o2=some (.string s)/\cnd (r==(s.size:Int)) (R (.bool false) a) (∃b3 o3,xP=some ⟨b3,o3,none⟩/\∃t:Int,ac a b3 (o3+1)=some (.int .i64 t)/\aw Tryz.prog 136 #[.pointer xP,.int .u8 60] a [] (fun B w=>B= .tuple #[]/\ai Tryz.prog 137 #[.pointer xP,.int .u8 33] w [] fun C c=>∃q:Bool,C= .bool q/\cnd (!q) (R (.bool true) c) (∃b4 o4,xP=some ⟨b4,o4,none⟩/\∃u:Int,ac c b4 (o4+1)=some (.int .i64 u)/\∃b5 o5,xP=some ⟨b5,o5,none⟩/\(∃l,ac c b5 (o5+1)=some l)/\aq c b5 (o5+1)=true/\let x:ab:=am c b5 (o5+1) (.int .i64 (i64.wrap (u+1)));aw Tryz.prog 136 #[.pointer xP,.int .u8 45] x [] (fun D y=>D= .tuple #[]/\aw Tryz.prog 136 #[.pointer xP,.int .u8 45] y [] (fun E d=>E= .tuple #[]/\∃b6 o6,xP=some ⟨b6,o6,none⟩/\∃f:ByteArray,ac d b6 o6=some (.string f)/\∃b7 o7,xP=some ⟨b7,o7,none⟩/\∃g:Int,ac d b7 (o7+1)=some (.int .i64 g)/\0<=g/\g<=(f.size:Int)/\ai Tryz.prog 134 #[.string (f.extract (Int.toNat g) f.size),.string ⟨#[45,45,62]⟩] d [] fun F n=>∃k:Int,F= .int .i64 k/\Fr [] d n/\aw Tryz.prog 46 #[.bool (decide (k>=0)),.int .i64 t,.int .i64 15] n [] (fun G e=>G= .tuple #[]/\∃b8 o8,xP=some ⟨b8,o8,none⟩/\∃v:Int,ac e b8 (o8+1)=some (.int .i64 v)/\∃b9 o9,xP=some ⟨b9,o9,none⟩/\(∃l,ac e b9 (o9+1)=some l)/\aq e b9 (o9+1)=true/\let m:ab:=am e b9 (o9+1) (.int .i64 (i64.wrap (v+(i64.wrap (k+3)))));i [] m/\p [] m<p [] j) Rp) Rp) Rp)) Rp)
theorem yw {h:ab} {R Rp:VP} (xP:Option Addr) (H:S93 xP h R Rp):az Tryz.prog 93 #[.pointer xP] h R Rp:=dw [] 60 [(0,⟨[0],[],[],[]⟩)] [] [] [(2,⟨10,false⟩),(11,⟨11,false⟩)] Tryz.func93 (by kernel_rfl) (by kernel_rfl) H
end Go.Proofs.YtlflalecmhgmjaaGreatDoor.N
namespace Go.Proofs.YtlflalecmhgmjaaGreatDoor.G
def ni (c:Nat):Bool:=zO c||decide (c=95)
def nj (c:Nat):Bool:=ni c||uz c||decide (c=46\/c=58\/c=45)
def want (s:ByteArray) (c i:Nat):Er Nat:=bx (decide (bt s i=c)) (i,15) (.ok (i+1))
def kN (s:ByteArray) (i:Nat):Er (ByteArray × Nat):=bx (ni (bt s i)) (i,15) (.ok (s.extract i (run nj s i),run nj s i))
def hU (s:ByteArray) (ends may:Nat->Bool) (i:Nat) (out:List UInt8):Er (Option (List UInt8) × Nat):=
 if i<s.size then
  if ends (bt s i)=true then .ok (some out,i)
  else if bt s i=38 then
   match part s i with
   | some (c,n)=>hU s ends may (i+(n-1)+1) (out++[UInt8.ofNat c])
   | none=>.no (i,15)
  else if may (bt s i)=true then hU s ends may (i+1) (out++[UInt8.ofNat (bt s i)])
  else .no (i,15)
 else .ok (none,s.size)
termination_by s.size-i
structure Atr where
 name:ByteArray
 says:ByteArray
 at_:Nat
structure Tg where
 name:ByteArray
 at_:Nat
 nameAt:Nat
 list:List Atr
 whole:Bool
def eqB (a b:ByteArray):Bool:=a.data.toList==b.data.toList
def ji (s:ByteArray) (ahead:List Atr) (i:Nat):Er (Atr × Nat):=
 (kN s i).bind fun(nm,j)=>bx (ahead.all fun a=> !eqB a.name nm) (i,18) <| (want s 61 j).bind fun k=>
  bx (decide (bt s k=34\/bt s k=39)) (k,15) <| (hU s (fun c=>decide (c=bt s k)) (fun c=>dq c&&decide (c≠60)) (k+1) []).bind fun(o,e)=>
   match o with
   | some l=>.ok (⟨nm,mkB l,k+1⟩,e+1)
   | none=>.no (k,15)
def dH (s:ByteArray):Nat->List Atr->Nat->Er (List Atr × Bool × Nat)
 | 0,_,_=>.un
 | n+1,l,i=>
  let j:=run eu s i
  if bt s j=62 then .ok (l,false,j+1)
  else if bt s j=47 then(want s 62 (j+1)).bind fun k=>.ok (l,true,k)
  else bx (decide (i<j)) (j,15) <| (ji s l j).bind fun(a,k)=>dH s n (l++[a]) k
def gH (s:ByteArray) (nm:ByteArray) (i:Nat):Er Nat:=
 (want s 47 i).bind fun j=>(kN s j).bind fun(x,k)=>bx (eqB x nm) (j,15) <| want s 62 (run eu s k)
def oI (s:ByteArray) (l:List UInt8):Nat->Nat->Option Nat
 | 0,_=>none
 | n+1,i=>if preB s i l=true then some i else oI s l n (i+1)
def oJ :List UInt8:=[45,45,62]
def eX (s:ByteArray):Nat->Nat->Er (Option Nat)
 | 0,_=>.un
 | n+1,i=>
  let j:=run eu s i
  if j>=s.size then .ok none
  else(want s 60 j).bind fun k=>
   if bt s k≠33 then .ok (some k)
   else(want s 45 (k+1)).bind fun k=>(want s 45 k).bind fun k=>
    match oI s oJ (s.size+1-k) k with
    | some e=>eX s n (e+3)
    | none=>.no (j,15)
def jC (t:Tg) (nm:List UInt8):Option Atr:=t.list.find? fun a=>a.name.data.toList==nm
def gd (t:Tg):List (List UInt8)->Er Unit
 | []=>.ok ()
 | x::r=>bx (jC t x).isSome (t.at_,14) (gd t r)
structure Xd where
 i:Nat
 n:Nat
 dir:Bool
 graph:Bool
 keys:List (ByteArray × ByteArray × ByteArray)
 ids:List (ByteArray × Nat)
 ends:List (ByteArray × Nat)
 labels:List ByteArray
 spots:List (Nat × Nat)
 weights:List Nat
 h0:Bool
 h1:Bool
 h2:Bool
abbrev Xs :=List (List UInt8) × Xd
def Xs.at (x:Xs) (i:Nat):Xs:=(x.1,{x.2 with i:=i})
abbrev Kd :=Tg->Xs->Er Xs
abbrev My :=ByteArray->Nat->Xs->Er (Xs × Kd)
section
variable (s:ByteArray) (rd:ByteArray->Option (Nat × Nat)) (cl:Nat->Nat)
def elem (may:My) (x:Xs):Er Xs:=
 (kN s x.2.i).bind fun(nm,j)=>(may nm x.2.i (x.at j)).bind fun(x1,read)=>(dH s (s.size+1) [] x1.2.i).bind fun(l,w,k)=>read ⟨nm,x.2.i-1,x.2.i,l,w⟩ (x1.at k)
def inX (el:Xs->Er Xs) (nm:ByteArray):Nat->Xs->Er Xs
 | 0,_=>.un
 | n+1,x=>(eX s (s.size+1) x.2.i).bind fun o=>
  match o with
  | none=>.no (s.size,15)
  | some i=>if bt s i=47 then(gH s nm i).bind fun j=>.ok (x.at j)else(el (x.at i)).bind fun x'=>inX el nm n x'
def within (el:Xs->Er Xs) (t:Tg) (x:Xs):Er Xs:=if t.whole=true then .ok x else inX s el t.name (s.size+1) x
def ir :My:=fun _ at_ _=>.no (at_,16)
def below (k:Xd->Er Xs) (x:Xs):Er Xs:=(k x.2).bind fun y=>.ok (x.1,y.2)
def nk :List UInt8:=[107,101,121]
def uK :List UInt8:=[103,114,97,112,104]
def jD :List UInt8:=[103,114,97,112,104,109,108]
def sf :List UInt8:=[110,111,100,101]
def sj :List UInt8:=[101,100,103,101]
def sk :List UInt8:=[100,97,116,97]
def xId :List UInt8:=[105,100]
def gf :List UInt8:=[102,111,114]
def dQ :List UInt8:=[97,116,116,114,46,110,97,109,101]
def bT :List UInt8:=[101,100,103,101,100,101,102,97,117,108,116]
def co :List UInt8:=[100,105,114,101,99,116,101,100]
def it :List UInt8:=[117,110,100,105,114,101,99,116,101,100]
def fG :List UInt8:=[115,111,117,114,99,101]
def fH :List UInt8:=[116,97,114,103,101,116]
def uL :List UInt8:=[108,97,98,101,108]
def xX :List UInt8:=[120]
def xY :List UInt8:=[121]
def so :List UInt8:=[119,101,105,103,104,116]
def bW (r:Xd):List Atr->Er Unit
 | []=>.ok ()
 | a::l=>
  if a.name.data.toList=gf then bx (decide (a.says.data.toList=sf\/a.says.data.toList=sj)) (a.at_,16) (bW r l)
  else if a.name.data.toList=xId then bx (!r.keys.any fun k=>eqB k.1 a.says) (a.at_,18) (bW r l)
  else bW r l
def aF (t:Tg) (nm:List UInt8):ByteArray:=((jC t nm).map (·.says)).getD noB
def kp (t:Tg) (nm:List UInt8):Nat:=((jC t nm).map (·.at_)).getD 0
def pJ :Kd:=fun t=>below fun r=>
 (gd t [xId,gf,dQ]).bind fun _=>(bW r t.list).bind fun _=>
  within s (elem s ir) t ([],{r with keys:=r.keys++[(aF t xId,aF t gf,aF t dQ)]})
def fI (t:Tg) (r:Xs):Er (ByteArray × Nat × Xs):=
 if t.whole=true then .ok (noB,r.2.i,r)
 else(hU s (fun c=>decide (c=60)) (fun c=>dq c||eu c) r.2.i []).bind fun(o,e)=>
  match o with
  | none=>.no (s.size,15)
  | some l=>(gH s t.name (e+1)).bind fun j=>.ok (mkB l,r.2.i,r.at j)
def uM :List UInt8->List UInt8
 | []=>[]
 | c::l=>if eu c.toNat=true then uM l else c::l
def trimB (l:List UInt8):List UInt8:=(uM (uM l).reverse).reverse
def oK (says:ByteArray) (at_:Nat):Er Nat:=
 match rd (mkB (trimB says.data.toList))with
 | some (x,0)=>.ok (cl x)
 | some (_,e+1)=>.no (at_,e+1)
 | none=>.un
def ey (node:Bool) (nm:List UInt8):Nat:=
 if node=true then(if nm=uL then 1 else if nm=xX then 2 else if nm=xY then 3 else 0)else if nm=so then 4 else 0
def dx (t v:Nat) (says:ByteArray) (at_:Nat) (r:Xd):Er Xd:=
 if t=1 then bx (decide (says.size<=256)) (at_,23) <| bx (says.data.toList.all fun c=>dq c.toNat) (at_,25) <| .ok {r with labels:=r.labels.set v says,h0:=true}
 else(oK rd cl says at_).bind fun x=>
  if t=2 then .ok {r with spots:=r.spots.modify v fun p=>(x,p.2),h1:=true}
  else if t=3 then .ok {r with spots:=r.spots.modify v fun p=>(p.1,x),h1:=true}
  else .ok {r with weights:=r.weights.set v x,h2:=true}
def kO (node:Bool) (v:Nat) (nm:ByteArray):Kd:=fun d x=>
 (gd d [nk]).bind fun _=>
  match x.2.keys.find? fun k=>eqB k.1 (aF d nk)with
  | none=>.no (kp d nk,14)
  | some (_,of,name)=>bx (eqB of nm) (kp d nk,14) <|
   let t:=ey node name.data.toList
   bx (decide (t=0)|| !x.1.contains name.data.toList) (kp d nk,18) <| (fI s d (if t=0 then x else(x.1++[name.data.toList],x.2))).bind fun(says,at_,y)=>
    if t=0 then .ok y else(dx rd cl t v says at_ y.2).bind fun r=>.ok (y.1,r)
def sq (node:Bool) (v:Nat) (nm:ByteArray):My:=fun n at_ x=>if n.data.toList=sk then .ok (x,kO s rd cl node v nm)else .no (at_,16)
def gI (node:Bool) (v:Nat) (t:Tg) (r:Xd):Er Xs:=within s (elem s (sq s rd cl node v t.name)) t ([],r)
def gU :Kd:=fun t=>below fun r=>
 (gd t [xId]).bind fun _=>bx (!r.ids.any fun p=>eqB p.1 (aF t xId)) (kp t xId,18) <|
  gI s rd cl true r.n t {r with n:=r.n+1,ids:=r.ids++[(aF t xId,r.n)],labels:=r.labels++[noB],spots:=r.spots++[(0,0)]}
def gh :Kd:=fun t=>below fun r=>
 (gd t [fG,fH]).bind fun _=>
  gI s rd cl false r.weights.length t {r with ends:=r.ends++[(aF t fG,kp t fG),(aF t fH,kp t fH)],weights:=r.weights++[4607182418800017408]}
def cA :My:=fun nm at_ x=>
 if nm.data.toList=sf then bx (decide (x.2.n<1024)) (at_,3) (.ok (x,gU s rd cl))
 else if nm.data.toList=sj then bx (decide (x.2.weights.length<3072)) (at_,3) (.ok (x,gh s rd cl))
 else .no (at_,16)
def jj :Kd:=fun t=>below fun r=>
 (gd t [bT]).bind fun _=>bx (decide ((aF t bT).data.toList=co\/(aF t bT).data.toList=it)) (kp t bT,16) <|
  within s (elem s (cA s rd cl)) t ([],{r with dir:=decide ((aF t bT).data.toList=co)})
def cC :My:=fun nm at_ x=>
 if nm.data.toList=nk then bx (decide (x.2.keys.length<64)) (at_,3) (.ok (x,pJ s))
 else if nm.data.toList=uK then bx (!x.2.graph) (at_,18) (.ok ((x.1,{x.2 with graph:=true}),jj s rd cl))
 else .no (at_,16)
def qU :My:=fun nm at_ x=>
 if nm.data.toList=jD then .ok (x,fun t x=>within s (elem s (cC s rd cl)) t x)else .no (at_,16)
def kq :List UInt8:=[60,63,120,109,108]
def same (s:ByteArray):List UInt8->Nat->Nat
 | [],i=>i
 | c::l,i=>if bt s i=c.toNat then same s l (i+1)else i
def head (s:ByteArray):Er Nat:=
 let n:=same s kq 0
 if n<2 then .ok 0
 else bx (decide (n=5)) (n,15) <|
  match oI s [63,62] (s.size+1) 0 with
  | some k=>.ok (k+2)
  | none=>.no (0,15)
def gV (ids:List (ByteArray × Nat)) (x:ByteArray × Nat):Er Nat:=
 match ids.find? fun p=>eqB p.1 x.1 with
 | some p=>.ok p.2
 | none=>.no (x.2,14)
def cf (ids:List (ByteArray × Nat)):List (ByteArray × Nat)->Er (List (Nat × Nat))
 | a::b::r=>(gV ids a).bind fun x=>(gV ids b).bind fun y=>(cf ids r).bind fun l=>.ok ((x,y)::l)
 | _=>.ok []
def cg :Xd:=⟨0,0,false,false,[],[],[],[],[],[],false,false,false⟩
def qV (i:Nat):Er Xd:=
 (eX s (s.size+1) i).bind fun o=>
  match o with
  | none=>.no (s.size,15)
  | some i=>(elem s (qU s rd cl) ([],{cg with i:=i})).bind fun x=>(eX s (s.size+1) x.2.i).bind fun o=>
   match o with
   | some i=>(elem s ir (x.at i)).bind fun _=>.un
   | none=>.ok x.2
def fJ :Er Dc:=
 bx (decide (s.size<=262144)) (0,23) <| (head s).bind fun i=>(qV s rd cl i).bind fun r=>
  bx r.graph (s.size,14) <| (cf r.ids r.ends).bind fun es=>
   .ok ⟨r.n,r.dir,es,if r.h0=true then r.labels else [],if r.h1=true then r.spots else [],if r.h2=true then r.weights else []⟩
end
end Go.Proofs.YtlflalecmhgmjaaGreatDoor.G
