/- The writer of GraphML: a line, a key, an element. Conditions: none. -/
import Derived.Test.YtemphinmoihdaaaGreatDoorKNode
set_option linter.unusedVariables false
set_option linter.unusedSimpArgs false
open Go.IntKind (i64 u64 u8 i32)
namespace Go.Proofs.YtemphinmoihdaaaGreatDoor.N
open Go.Proofs.YtemphinmoihdaaaGreatDoor
open Go.X
open Go.Proofs
set_option maxRecDepth 100000
def dE (ws:List ByteArray):QS:=ws.flatMap (·.data.toList)
theorem fu (x:ByteArray) (r:List ByteArray):(dE (x::r)).length=x.size+(dE r).length:=by
 simp only[dE,List.flatMap_cons,List.length_append];rfl
theorem fv :(dE []).length=0:=rfl
def lnX (d:Nat) (ws:List ByteArray):QS:=G.ind (2*d)++(dE ws++[10])
theorem dY (d:Nat) (ws:List ByteArray):(lnX d ws).length=2*d+(dE ws).length+1:=by simp[lnX,G.ind];omega
def jW (d:Nat):List ByteArray->QS
 | k::v::r=>lnX d [⟨#[60,100,97,116,97,32,107,101,121,61,34]⟩,k,⟨#[34,62]⟩,v,⟨#[60,47,100,97,116,97,62]⟩]++jW d r
 | _=>[]
theorem Bn (d:Nat) {k:Nat} {ds:List ByteArray} (h:2*k+1<ds.length):jW d (ds.drop (2*k))=lnX d [⟨#[60,100,97,116,97,32,107,101,121,61,34]⟩,ds[2*k],⟨#[34,62]⟩,ds[2*k+1],⟨#[60,47,100,97,116,97,62]⟩]++jW d (ds.drop (2*(k+1))):=by
 rw[List.drop_eq_getElem_cons Qz,List.drop_eq_getElem_cons Qz]
 rfl
def elX (d:Nat) (front name:ByteArray) (ds:List ByteArray):QS:=
 if ds=[]then lnX d [front,⟨#[47,62]⟩]else lnX d [front,⟨#[62]⟩]++(jW (d+1) ds++lnX d [⟨#[60,47]⟩,name,⟨#[62]⟩])
section
variable {b c d d':Nat} {u:Bool} {A:QR} {l l':QS} {h0 h:ab} {C B:List Ck} {H:List Nat} {K:Value->ab->Prop}
theorem lT :(Q:Sq h0 C h (wX b u A c d l++B))->Hp h (wX b u A c d l):=fun Q=>(Q.pick [0,1] (by simp[ib,wX];decide)).hp
theorem MM {p:Nat} {ws:List ByteArray} (Hm:Hp h (wX b u A c d l++[Ck.ob p 9 (wds ws)])) (hd:d<=100) (hl:l.length+(dE ws).length<=45000000) (hw:ws.length<=100):
  QH 12 #[.pointer (some ⟨b,0,none⟩),.slice (some ⟨p,0,none⟩) ws.length ws.length] h fun v h'=>v= .tuple #[]/\
   ∃A' c',Sq h (wX b u A c d l++[Ck.ob p 9 (wds ws)]) h' (wX b true A' c' d (l++lnX d ws)++[Ck.ob p 9 (wds ws)]):=by
 apply G3
 unfold S12
 intro K
 have Q:=Sq.start Hm
 refine⟨b,0,rfl,b,0,rfl,(d:Int),Q.sy.cellO 0 rfl 2 rfl,?_⟩
 refine ao (R:=fun v h'=>v= .string (G.mkB (G.ind (2*d)))/\Fr [] h h') [] ?_ QB (fun _ _ r=>r.2) ?_
 ·refine jR (fun w hw=>Go.Proofs.Tryz.strings_Repeat (⟨#[32,32]⟩:ByteArray) d w Qz (by show 2*d<=_;omega)) fun h' f=>⟨?_,f⟩
  show Value.string ⟨(Lib.repeatL [32,32] d).toArray⟩=_
  rw[PD];rfl
 rintro v h1 ⟨rfl,f1⟩
 refine⟨_,rfl,f1,?_⟩
 have Q1:=Q.gr f1
 refine ao (aF (wX b u A c d l)) (IQ (u:=u) (A:=A) (c:=c) (d:=d) (l:=l) (Q1.pick [0,1] rfl).hp (by show l.length+(List.replicate (2*d) (32:UInt8)).toArray.size<=_;simp;omega)) QB (fun _ _ r=>r.2.choose_spec.choose_spec.fr) ?_
 rintro v h2 ⟨rfl,A2,c2,q2⟩
 have Q2:Sq h (wX b u A c d l++[Ck.ob p 9 (wds ws)]) h2 (wX b true A2 c2 d (l++G.ind (2*d))++[Ck.ob p 9 (wds ws)]):=Sq.call Q1 q2
 refine⟨_,.inl ⟨rfl,?_⟩⟩
 show K h2
 dsimp-zeta only[K]
 have ct:∀k,k<=ws.length->(dE (ws.take k)).length<=(dE ws).length:=by
  intro k _
  have:dE ws=dE (ws.take k)++dE (ws.drop k):=by rw[dE,dE,dE,<-List.flatMap_append,List.take_append_drop]
  rw[this,List.length_append];omega
 refine⟨fun lz h'=>∃(k:Nat) (A':QR) (c':Nat),lz=[QM (k:Int)]/\k<=ws.length/\Sq h (wX b u A c d l++[Ck.ob p 9 (wds ws)]) h' (wX b true A' c' d (l++G.ind (2*d)++dE (ws.take k))++[Ck.ob p 9 (wds ws)]),mI ws.length,⟨0,A2,c2,rfl,Nat.zero_le _,by simpa[dE]using Q2⟩,?_⟩
 rintro x h4 ⟨k,A4,c4,e,hk,Q4⟩
 cases e
 have il:(G.ind (2*d)).length=2*d:=by simp[G.ind]
 have e4:(l++G.ind (2*d)++dE (ws.take k)).length<=l.length+2*d+(dE ws).length:=by
  rw[List.length_append,List.length_append,il]
  have:=ct k hk;omega
 refine af (fun q=>?_) fun q=>?_
 ·have hlt:k<ws.length:=by omega
  intro K2
  have cw:ac h4 p (0+k*1)=some (.string ws[k]):=by
   rw[Nat.zero_add,Nat.mul_one]
   exact Q4.sy.cellO 2 rfl k (by simp[wds,hlt])
  refine⟨p,0,rfl,Qz,Qz,ws[k],by rw[Int.toNat_natCast];exact cw,b,0,rfl,?_⟩
  have ws1:ws[k].size<=(dE ws).length:=by
   have ew:ws=ws.take k++ws[k]::ws.drop (k+1):=by rw[<-List.drop_eq_getElem_cons hlt,List.take_append_drop]
   have:dE ws=dE (ws.take k)++(ws[k].data.toList++dE (ws.drop (k+1))):=(congrArg dE ew).trans (by unfold dE;rw[List.flatMap_append,List.flatMap_cons])
   rw[this,List.length_append,List.length_append]
   have:ws[k].data.toList.length=ws[k].size:=rfl
   omega
  refine ao (aF (wX b true A4 c4 d (l++G.ind (2*d)++dE (ws.take k)))) (IQ (Q4.pick [0,1] rfl).hp Qz) QB (fun _ _ r=>r.2.choose_spec.choose_spec.fr) ?_
  rintro v h5 ⟨rfl,A5,c5,q5⟩
  refine⟨_,.inl ⟨rfl,?_⟩⟩
  show K2 h5
  dsimp-zeta only[K2]
  rw[wrN Qz]
  have Q5:Sq h (wX b u A c d l++[Ck.ob p 9 (wds ws)]) h5 (wX b true A5 c5 d (l++G.ind (2*d)++dE (ws.take k)++ws[k].data.toList)++[Ck.ob p 9 (wds ws)]):=Sq.call Q4 q5
  refine⟨⟨k+1,A5,c5,rfl,hlt,?_⟩,by simp only[mI];omega⟩
  have:dE (ws.take (k+1))=dE (ws.take k)++ws[k].data.toList:=by
   rw[List.take_add_one,List.getElem?_eq_getElem hlt];unfold dE;rw[List.flatMap_append];simp only[Option.toList_some,List.flatMap_cons,List.flatMap_nil,List.append_nil]
  rw[this,<-List.append_assoc]
  exact Q5
 ·have hke:k=ws.length:=by omega
  subst hke
  rw[List.take_length]at Q4
  refine⟨b,0,rfl,?_⟩
  refine ao (aF (wX b true A4 c4 d (l++G.ind (2*d)++dE ws))) (Mr (x:=10) (u:=true) (A:=A4) (c:=c4) (d:=d) (Q4.pick [0,1] rfl).hp (by rw[List.length_append,List.length_append,il];omega)) QB (fun _ _ r=>r.2.choose_spec.choose_spec.fr) ?_
  rintro v h5 ⟨rfl,A5,c5,q5⟩
  refine .inl ⟨rfl,rfl,A5,c5,?_⟩
  have e:l++lnX d ws=l++G.ind (2*d)++dE ws++[10]:=by simp[lnX]
  rw[e]
  exact Sq.call Q4 q5
theorem sS {ws:List ByteArray} (Q:Sq h0 C h (wX b u A c d l++B)) (hd:Hd H B) (hd':d<=100) (hl:l.length+(dE ws).length<=45000000) (hw:ws.length<=100)
  (R:∀A' c' h2,Sq h0 C h2 (wX b true A' c' d (l++lnX d ws)++B)->K (.tuple #[]) h2):
  QG 12 #[.pointer (some ⟨b,0,none⟩),.slice (some ⟨h.size,0,none⟩) ws.length ws.length] (h.push (.cells (wds ws).toArray 9)) H K:=by
 have ap:=hd.apart Q
 have Q1:Sq h0 C (h.push (.cells (wds ws).toArray 9)) (wX b u A c d l++[Ck.ob h.size 9 (wds ws)]++B):=Sq.ins Q 9 (wds ws)
 have Hw:Hp (h.push (.cells (wds ws).toArray 9)) (wX b u A c d l++[Ck.ob h.size 9 (wds ws)]):=(Sq.pick Q1 [0,1,2] (by simp[ib,wX];decide)).hp
 refine ao (aF (wX b u A c d l++[Ck.ob h.size 9 (wds ws)])) (MM (ws:=ws) Hw hd' hl hw) ?_ (fun _ _ r=>r.2.choose_spec.choose_spec.fr) ?_
 ·intro x hx w
  obtain⟨h1,h2⟩:=ap x hx
  simp only[aF,List.flatMap_append,List.mem_append]at w h2
  rcases w with w | w
  ·exact h2 w
  ·simp[Ck.ob]at w;omega
 rintro v2 h2 ⟨rfl,A2,c2,q2⟩
 have Q2:=Sq.call Q1 q2
 exact R A2 c2 h2 (Sq.del Q2)
theorem wN {f:FuncId} {args:Array Value} (cH:QH f args h fun v h'=>v= .tuple #[]/\∃A' c',Sq h (wX b u A c d l) h' (wX b true A' c' d' l')) (Q:Sq h0 C h (wX b u A c d l++B)) (hd:Hd H B)
  (R:∀A' c' h2,Sq h0 C h2 (wX b true A' c' d' l'++B)->K (.tuple #[]) h2):QG f args h H K:=by
 refine ao (aF (wX b u A c d l)) cH (fun x hx=>(hd.apart Q x hx).2) (fun _ _ r=>r.2.choose_spec.choose_spec.fr) ?_
 rintro v2 h2 ⟨rfl,A2,c2,q2⟩
 exact R A2 c2 h2 (Sq.call Q q2)
def kY (id of name kind:ByteArray):QS:=
 lnX 1 [⟨#[60,107,101,121,32,105,100,61,34]⟩,id,⟨#[34,32,102,111,114,61,34]⟩,of,⟨#[34,32,97,116,116,114,46,110,97,109,101,61,34]⟩,name,⟨#[34,32,97,116,116,114,46,116,121,112,101,61,34]⟩,kind,⟨#[34,47,62]⟩]
theorem Ae {id of name kind:ByteArray} (Hm:Hp h (wX b u A c 1 l)) (hl:l.length<=40000000) (hi:id.size<=100/\of.size<=100/\name.size<=100/\kind.size<=100):
  QH 30 #[.pointer (some ⟨b,0,none⟩),.string id,.string of,.string name,.string kind] h fun v h'=>v= .tuple #[]/\∃A' c',Sq h (wX b u A c 1 l) h' (wX b true A' c' 1 (l++kY id of name kind)):=by
 apply G4
 unfold S30
 have Q:Sq h (wX b u A c 1 l) h (wX b u A c 1 l++[]):=by rw[List.append_nil];exact Sq.start Hm
 refine sS (H:=[]) (d:=1) (ws:=[⟨#[60,107,101,121,32,105,100,61,34]⟩,id,⟨#[34,32,102,111,114,61,34]⟩,of,⟨#[34,32,97,116,116,114,46,110,97,109,101,61,34]⟩,name,⟨#[34,32,97,116,116,114,46,116,121,112,101,61,34]⟩,kind,⟨#[34,47,62]⟩]) Q (fun x hx=>by simp at hx) Qz ?_ QB fun A2 c2 h2 Q2=>⟨rfl,rfl,A2,c2,by rw[List.append_nil]at Q2;exact Q2⟩
 simp only[fu,fv]
 have e1:(⟨#[60,107,101,121,32,105,100,61,34]⟩:ByteArray).size=9:=rfl
 have e2:(⟨#[34,32,102,111,114,61,34]⟩:ByteArray).size=7:=rfl
 have e3:(⟨#[34,32,97,116,116,114,46,110,97,109,101,61,34]⟩:ByteArray).size=13:=rfl
 have e4:(⟨#[34,32,97,116,116,114,46,116,121,112,101,61,34]⟩:ByteArray).size=13:=rfl
 have e5:(⟨#[34,47,62]⟩:ByteArray).size=3:=rfl
 omega
theorem MN {front name:ByteArray} {ds:List ByteArray} {dA:QR} {dC:Nat} (Hm:Hp h (wX b u A c d l++[Ck.sl eS 9 dA ds.length dC ds])) (hd:d<=50) (hl:l.length<=30000000) (hf:front.size<=1000/\name.size<=1000) (hds:∃m,ds.length=2*m/\m<=10) (hdl:∀x∈ds,x.size<=100000):
  QH 33 #[.pointer (some ⟨b,0,none⟩),.string front,.string name,.slice dA ds.length dC] h fun v h'=>v= .tuple #[]/\
   (∃A' c',Sq h (wX b u A c d l++[Ck.sl eS 9 dA ds.length dC ds]) h' (wX b true A' c' d (l++elX d front name ds)++[Ck.sl eS 9 dA ds.length dC ds])):=by
 apply G6
 unfold S33
 obtain⟨m,hm,hm10⟩:=hds
 have hd0:Hd [] [Ck.sl eS 9 dA ds.length dC ds]:=fun x hx=>by simp at hx
 have e1:(⟨#[47,62]⟩:ByteArray).size=2:=rfl
 have e2:(⟨#[62]⟩:ByteArray).size=1:=rfl
 have e3:(⟨#[60,47]⟩:ByteArray).size=2:=rfl
 have e4:(⟨#[60,100,97,116,97,32,107,101,121,61,34]⟩:ByteArray).size=11:=rfl
 have e5:(⟨#[34,62]⟩:ByteArray).size=2:=rfl
 have e6:(⟨#[60,47,100,97,116,97,62]⟩:ByteArray).size=7:=rfl
 have Q:=Sq.start Hm
 refine aH (fun q=>?_) fun q=>?_
 ·have h0:ds=[]:=List.eq_nil_of_length_eq_zero Qz
  have ee:elX d front name ds=lnX d [front,⟨#[47,62]⟩]:=by unfold elX;rw[if_pos h0]
  rw[ee]
  refine sS (ws:=[front,⟨#[47,62]⟩]) Q hd0 Qz ?_ QB fun A2 c2 h2 Q2=>⟨rfl,rfl,A2,c2,Q2⟩
  simp only[fu,fv]
  omega
 ·have h0:ds≠[]:=fun z=>q (by rw[z];rfl)
  have ee:elX d front name ds=lnX d [front,⟨#[62]⟩]++(jW (d+1) ds++lnX d [⟨#[60,47]⟩,name,⟨#[62]⟩]):=by unfold elX;rw[if_neg h0]
  rw[ee]
  refine sS (ws:=[front,⟨#[62]⟩]) Q hd0 Qz ?_ QB fun A2 c2 h2 Q2=>⟨rfl,?_⟩
  ·simp only[fu,fv]
   omega
  have l2:(l++lnX d [front,⟨#[62]⟩]).length<=l.length+1200:=by
   rw[List.length_append,dY]
   simp only[fu,fv]
   omega
  generalize hl2:l++lnX d [front,⟨#[62]⟩]=l2' at Q2 l2
  refine⟨b,0,rfl,(d:Int),Q2.sy.cellO 0 rfl 2 rfl,b,0,rfl,⟨_,Q2.sy.cellO 0 rfl 2 rfl⟩,Q2.sy.freeO 0 rfl 2,?_⟩
  rw[wrN Qz]
  intro h5
  have Q5:Sq h (wX b u A c d l++[Ck.sl eS 9 dA ds.length dC ds]) h5 (wX b true A2 c2 (d+1) l2'++[Ck.sl eS 9 dA ds.length dC ds]):=⟨Q2.sy.stO 0 rfl 2 _,Q2.ri⟩
  clear_value h5
  refine⟨fun lz h'=>∃(k:Nat) (A':QR) (c':Nat) (l':QS),lz=[QM ((2*k:Nat):Int)]/\k<=m/\l'.length<=l2'.length+k*300000/\l2'++jW (d+1) ds=l'++jW (d+1) (ds.drop (2*k))/\Sq h (wX b u A c d l++[Ck.sl eS 9 dA ds.length dC ds]) h' (wX b true A' c' (d+1) l'++[Ck.sl eS 9 dA ds.length dC ds]),mI ds.length,⟨0,A2,c2,l2',rfl,Nat.zero_le _,Qz,by rw[Nat.mul_zero,List.drop_zero],Q5⟩,?_⟩
  rintro i h6 ⟨k,A6,c6,l6,ei,hk,hl6,el6,Q6⟩
  cases ei
  refine af (fun q=>?_) fun q=>?_
  ·have hk2:2*k+1<ds.length:=by omega
   obtain⟨g,hg,-,-⟩:=Q6.sy.atS 2 rfl (i:=(0:Int)) Qz Qz
   have ca:∀j (hj:j<ds.length),ac h6 g (0+j*1)=some (.string ds[j]):=fun j hj=>Q6.sy.cellS 2 rfl hg (i:=j) (t:=0) (List.getElem?_eq_getElem hj) rfl
   rw[show i64.wrap (((2*k:Nat):Int)+(1:Int))=((2*k+1:Nat):Int)from wrN Qz]
   refine⟨g,0,hg,Qz,Qz,ds[2*k],by rw[Int.toNat_natCast];exact ca _ Qz,g,0,hg,Qz,Qz,ds[2*k+1],by rw[Int.toNat_natCast];exact ca _ hk2,Fr.push _ _,?_⟩
   have s1:=hdl _ (List.getElem_mem (l:=ds) (show 2*k<ds.length by omega))
   have s2:=hdl _ (List.getElem_mem hk2)
   have cl:(dE [⟨#[60,100,97,116,97,32,107,101,121,61,34]⟩,ds[2*k],⟨#[34,62]⟩,ds[2*k+1],⟨#[60,47,100,97,116,97,62]⟩]).length<=200100:=by
    simp only[fu,fv]
    omega
   refine sS (ws:=[⟨#[60,100,97,116,97,32,107,101,121,61,34]⟩,ds[2*k],⟨#[34,62]⟩,ds[2*k+1],⟨#[60,47,100,97,116,97,62]⟩]) Q6 hd0 Qz Qz (by show 5<=100;omega) fun A7 c7 h7 Q7=>⟨rfl,?_⟩
   have ew:i64.wrap (((2*k:Nat):Int)+(2:Int))=((2*(k+1):Nat):Int):=by rw[wr Qz Qz];omega
   rw[ew]
   refine⟨⟨k+1,A7,c7,_,rfl,Qz,?_,?_,Q7⟩,by simp only[mI];omega⟩
   ·rw[List.length_append,dY];omega
   ·rw[el6,Bn _ hk2,List.append_assoc]
  ·have hk2:2*k=ds.length:=by omega
   rw[hk2,List.drop_length]at el6
   refine⟨b,0,rfl,((d+1:Nat):Int),Q6.sy.cellO 0 rfl 2 rfl,b,0,rfl,⟨_,Q6.sy.cellO 0 rfl 2 rfl⟩,Q6.sy.freeO 0 rfl 2,?_⟩
   rw[show i64.wrap (((d+1:Nat):Int)-1)=(d:Int) by rw[wr Qz Qz];omega]
   intro h9
   have Q9:Sq h (wX b u A c d l++[Ck.sl eS 9 dA ds.length dC ds]) h9 (wX b true A6 c6 d l6++[Ck.sl eS 9 dA ds.length dC ds]):=⟨Q6.sy.stO 0 rfl 2 _,Q6.ri⟩
   clear_value h9
   refine sS (ws:=[⟨#[60,47]⟩,name,⟨#[62]⟩]) Q9 hd0 Qz ?_ QB fun A10 c10 h10 Q10=>⟨rfl,rfl,A10,c10,?_⟩
   ·simp only[fu,fv]
    omega
   have ef:l++(lnX d [front,⟨#[62]⟩]++(jW (d+1) ds++lnX d [⟨#[60,47]⟩,name,⟨#[62]⟩]))=l6++lnX d [⟨#[60,47]⟩,name,⟨#[62]⟩]:=by
    rw[<-List.append_assoc,hl2,<-List.append_assoc,el6]
    simp[jW]
   rw[ef]
   exact Q10
end
def sM (gl:GL) (tx:Nat->QS) (x:Nat):Prop:=(∀h:ab,Gl gl h->QH 32 #[QQ x] h fun v h'=>v= .string (G.mkB (tx x))/\Fr [] h h')/\(tx x).length<=100
def dV (gl:GL) (aE:QR) (nE cE:Nat) (es:Es) (aL:QR) (nL cL:Nat) (ls:List ByteArray) (aS:QR) (nS cS:Nat) (ss:List (Nat × Nat)) (aW:QR) (nW cW:Nat) (ws:List Nat):List Ck:=
 [Ck.glob gl,Ck.vw eP aE nE cE es,Ck.vw eS aL nL cL ls,Ck.vw eFF aS nS cS ss,Ck.vw eF aW nW cW ws]
theorem qv {n:Nat} (h:n<=1000000):(G.dec n).length<=10:=G.FD 9 n Qz
section
variable {gl:GL} {b c:Nat} {u:Bool} {A:QR} {l:QS} {h:ab} {tx:Nat->QS} {aE aL aS aW:QR} {nE cE nL cL nS cS nW cW n v:Nat} {es:Es} {ls:List ByteArray} {ss:List (Nat × Nat)} {ws:List Nat} {dir:Bool}
end
def CN (gl:GL) (esc:ByteArray->QS) (x:ByteArray):Prop:=(∀h:ab,Gl gl h->QH 31 #[.string x] h fun v h'=>v= .string (G.mkB (esc x))/\Fr [] h h')/\(esc x).length<=2000
def nz (nL nS nW:Nat):QS:=
 (if 0<nL then kY ⟨#[100,48]⟩ ⟨#[110,111,100,101]⟩ ⟨#[108,97,98,101,108]⟩ ⟨#[115,116,114,105,110,103]⟩else [])++
 ((if 0<nS then kY ⟨#[100,49]⟩ ⟨#[110,111,100,101]⟩ ⟨#[120]⟩ ⟨#[100,111,117,98,108,101]⟩++kY ⟨#[100,50]⟩ ⟨#[110,111,100,101]⟩ ⟨#[121]⟩ ⟨#[100,111,117,98,108,101]⟩else [])++
 if 0<nW then kY ⟨#[100,51]⟩ ⟨#[101,100,103,101]⟩ ⟨#[119,101,105,103,104,116]⟩ ⟨#[100,111,117,98,108,101]⟩else [])
theorem nA (a b c d:ByteArray):(kY a b c d).length=48+a.size+b.size+c.size+d.size:=by
 unfold kY
 rw[dY]
 simp only[fu,fv]
 have e1:(⟨#[60,107,101,121,32,105,100,61,34]⟩:ByteArray).size=9:=rfl
 have e2:(⟨#[34,32,102,111,114,61,34]⟩:ByteArray).size=7:=rfl
 have e3:(⟨#[34,32,97,116,116,114,46,110,97,109,101,61,34]⟩:ByteArray).size=13:=rfl
 have e4:(⟨#[34,32,97,116,116,114,46,116,121,112,101,61,34]⟩:ByteArray).size=13:=rfl
 have e5:(⟨#[34,47,62]⟩:ByteArray).size=3:=rfl
 omega
def dD (tx:Nat->QS) (esc:ByteArray->QS) (x:Option ByteArray) (p:Option (Nat × Nat)):List ByteArray:=
 (match x with | some x=>[⟨#[100,48]⟩,G.mkB (esc x)] | none=>[])++(match p with | some p=>[⟨#[100,49]⟩,G.mkB (tx p.1),⟨#[100,50]⟩,G.mkB (tx p.2)] | none=>[])
def jx (tx:Nat->QS) (esc:ByteArray->QS) (x:Option ByteArray) (p:Option (Nat × Nat)) (v:Nat):QS:=
 elX 2 (((⟨#[60,110,111,100,101,32,105,100,61,34,110]⟩:ByteArray)++G.mkB (G.dec v))++(⟨#[34]⟩:ByteArray)) ⟨#[110,111,100,101]⟩ (dD tx esc x p)
def fp (tx:Nat->QS) (esc:ByteArray->QS) (ls:List ByteArray) (ss:List (Nat × Nat)):Nat->Nat->QS
 | 0,_=>[]
 | n+1,k=>jx tx esc ls[k]? ss[k]? k++fp tx esc ls ss n (k+1)
def ku (tx:Nat->QS) (w:Option Nat):List ByteArray:=match w with | some x=>[⟨#[100,51]⟩,G.mkB (tx x)] | none=>[]
def ji (tx:Nat->QS) (w:Option Nat) (e:Nat × Nat):QS:=
 elX 2 (((((⟨#[60,101,100,103,101,32,115,111,117,114,99,101,61,34,110]⟩:ByteArray)++G.mkB (G.dec e.1))++(⟨#[34,32,116,97,114,103,101,116,61,34,110]⟩:ByteArray))++G.mkB (G.dec e.2))++(⟨#[34]⟩:ByteArray)) ⟨#[101,100,103,101]⟩ (ku tx w)
def fq (tx:Nat->QS):List (Nat × Nat)->List Nat->QS
 | [],_=>[]
 | e::es,ws=>ji tx ws.head? e++fq tx es ws.tail
theorem qG (d S:Nat):∀ds:List ByteArray,(∀x∈ds,x.size<=S)->(jW d ds).length<=ds.length*(2*d+2*S+30)
 | [],_=>by simp[jW]
 | [x],_=>by simp[jW]
 | k::v::r,h=>by
  have ih:=qG d S r fun x hx=>h x (by simp[hx])
  have h1:=h k QB
  have h2:=h v QB
  rw[jW,List.length_append,dY]
  simp only[fu,fv,List.length_cons]
  have e4:(⟨#[60,100,97,116,97,32,107,101,121,61,34]⟩:ByteArray).size=11:=rfl
  have e5:(⟨#[34,62]⟩:ByteArray).size=2:=rfl
  have e6:(⟨#[60,47,100,97,116,97,62]⟩:ByteArray).size=7:=rfl
  have:(r.length+1+1)*(2*d+2*S+30)=r.length*(2*d+2*S+30)+(2*d+2*S+30)+(2*d+2*S+30):=by rw[Nat.add_mul,Nat.add_mul,Nat.one_mul]
  omega
theorem Ab {front name:ByteArray} {ds:List ByteArray} (hf:front.size<=100/\name.size<=100) (hd:ds.length<=6) (hs:∀x∈ds,x.size<=2000):(elX 2 front name ds).length<=25000:=by
 have e1:(⟨#[47,62]⟩:ByteArray).size=2:=rfl
 have e2:(⟨#[62]⟩:ByteArray).size=1:=rfl
 have e3:(⟨#[60,47]⟩:ByteArray).size=2:=rfl
 have dl:(jW (2+1) ds).length<=_:=qG 3 2000 ds hs
 unfold elX
 split
 ·rw[dY];simp only[fu,fv];omega
 ·rw[List.length_append,List.length_append,dY,dY]
  simp only[fu,fv]
  have:ds.length*(2*3+2*2000+30)<=6*(2*3+2*2000+30):=Nat.mul_le_mul_right _ hd
  omega
section
variable {gl:GL} {b c:Nat} {u:Bool} {A:QR} {l:QS} {h:ab} {tx:Nat->QS} {esc:ByteArray->QS} {aE aL aS aW:QR} {nE cE nL cL nS cS nW cW n:Nat} {m:Int} {es:Es} {ls:List ByteArray} {ss:List (Nat × Nat)} {ws:List Nat} {dir:Bool}
theorem Mz (Hm:Hp h (wX b true A c 1 l)) (hl:l.length<=10000000):
  QH 13 #[.pointer (some ⟨b,0,none⟩),.agg #[QM m,.slice aE nE cE,.bool dir,.slice aL nL cL,.slice aS nS cS,.slice aW nW cW]] h fun v h'=>v= .tuple #[]/\∃A' c',Sq h (wX b true A c 1 l) h' (wX b true A' c' 1 (l++nz nL nS nW)):=by
 apply G5
 unfold S13
 intro h1
 have Q1:Sq h (wX b true A c 1 l) h1 (wX b true A c 1 l++[Ck.junk h.size]):=⟨(Sy.start Hm).junk _,fun x hx=>by simp[rds,wX,Ck.ob,Ck.sl,Ck.junk]at hx⟩
 have hd:Hd [h.size] [Ck.junk h.size]:=by
  intro x hx
  simp only[List.mem_singleton]at hx
  subst hx
  exact⟨0,rfl⟩
 clear_value h1
 unfold nz
 obtain⟨k1,hk1⟩:∃k1,k1=(if 0<nL then kY ⟨#[100,48]⟩ ⟨#[110,111,100,101]⟩ ⟨#[108,97,98,101,108]⟩ ⟨#[115,116,114,105,110,103]⟩else []):=⟨_,rfl⟩
 obtain⟨k2,hk2⟩:∃k2,k2=(if 0<nS then kY ⟨#[100,49]⟩ ⟨#[110,111,100,101]⟩ ⟨#[120]⟩ ⟨#[100,111,117,98,108,101]⟩++kY ⟨#[100,50]⟩ ⟨#[110,111,100,101]⟩ ⟨#[121]⟩ ⟨#[100,111,117,98,108,101]⟩else []):=⟨_,rfl⟩
 obtain⟨k3,hk3⟩:∃k3,k3=(if 0<nW then kY ⟨#[100,51]⟩ ⟨#[101,100,103,101]⟩ ⟨#[119,101,105,103,104,116]⟩ ⟨#[100,111,117,98,108,101]⟩else []):=⟨_,rfl⟩
 rw[<-hk1,<-hk2,<-hk3]
 have b1:k1.length<=200:=by rw[hk1];split<;>simp[nA,ByteArray.size]
 have b2:k2.length<=400:=by rw[hk2];split<;>simp[nA,ByteArray.size]
 refine⟨fun _ h'=>∃A' c',Sq h (wX b true A c 1 l) h' (wX b true A' c' 1 (l++k1)++[Ck.junk h.size]),af (fun q=>?_) fun q=>⟨A,c,by rw[hk1,if_neg Qz,List.append_nil];exact Q1⟩,?_⟩
 ·refine wN (Ae (lT Q1) Qz ⟨QA,QA,QA,QA⟩) Q1 hd fun A2 c2 h2 Q2=>⟨rfl,A2,c2,?_⟩
  rw[hk1,if_pos Qz];exact Q2
 rintro h3 ⟨A3,c3,Q3⟩
 have l3:(l++k1).length<=l.length+200:=by rw[List.length_append];omega
 refine⟨fun _ h'=>∃A' c',Sq h (wX b true A c 1 l) h' (wX b true A' c' 1 (l++k1++k2)++[Ck.junk h.size]),af (fun q=>?_) fun q=>⟨A3,c3,by rw[hk2,if_neg Qz,List.append_nil];exact Q3⟩,?_⟩
 ·refine wN (Ae (lT Q3) Qz ⟨QA,QA,QA,QA⟩) Q3 hd fun A4 c4 h4 Q4=>⟨rfl,?_⟩
  refine wN (Ae (lT Q4) (by rw[List.length_append,nA];simp only[ByteArray.size];simp;omega) ⟨QA,QA,QA,QA⟩) Q4 hd fun A5 c5 h5 Q5=>⟨rfl,A5,c5,?_⟩
  rw[hk2,if_pos Qz,<-List.append_assoc];exact Q5
 rintro h6 ⟨A6,c6,Q6⟩
 refine⟨fun _ h'=>∃A' c',Sq h (wX b true A c 1 l) h' (wX b true A' c' 1 (l++k1++k2++k3)++[Ck.junk h.size]),af (fun q=>?_) fun q=>⟨A6,c6,by rw[hk3,if_neg Qz,List.append_nil];exact Q6⟩,?_⟩
 ·refine wN (Ae (lT Q6) (by rw[List.length_append];omega) ⟨QA,QA,QA,QA⟩) Q6 hd fun A7 c7 h7 Q7=>⟨rfl,A7,c7,?_⟩
  rw[hk3,if_pos Qz];exact Q7
 rintro h8 ⟨A8,c8,Q8⟩
 refine⟨rfl,A8,c8,?_⟩
 have e:l++(k1++(k2++k3))=l++k1++k2++k3:=by simp
 rw[e]
 exact Q8.pick [0,1] rfl
theorem CO {x:Option ByteArray} {p:Option (Nat × Nat)} (hx:∀y,x=some y->(esc y).length<=2000) (hp:∀q,p=some q->(tx q.1).length<=100/\(tx q.2).length<=100):(∃m,(dD tx esc x p).length=2*m/\m<=3)/\∀y∈dD tx esc x p,y.size<=2000:=by
 have z:∀a c:UInt8,(⟨#[a,c]⟩:ByteArray).size<=2000:=fun a c=>by show 2<=2000;omega
 cases x<;>cases p
 ·exact⟨⟨0,rfl,Qz⟩,fun y hy=>by simp[dD]at hy⟩
 ·have:=hp _ rfl
  refine⟨⟨2,rfl,Qz⟩,fun y hy=>?_⟩
  simp only[dD,List.nil_append,List.mem_cons,List.not_mem_nil,or_false]at hy
  rcases hy with rfl | rfl | rfl | rfl
  ·exact z _ _
  ·rw[bu];omega
  ·exact z _ _
  ·rw[bu];omega
 ·have:=hx _ rfl
  refine⟨⟨1,rfl,Qz⟩,fun y hy=>?_⟩
  simp only[dD,List.append_nil,List.mem_cons,List.not_mem_nil,or_false]at hy
  rcases hy with rfl | rfl
  ·exact z _ _
  ·rw[bu];omega
 ·have h1:=hp _ rfl
  have h2:=hx _ rfl
  refine⟨⟨3,rfl,Qz⟩,fun y hy=>?_⟩
  simp only[dD,List.cons_append,List.nil_append,List.mem_cons,List.not_mem_nil,or_false]at hy
  rcases hy with rfl | rfl | rfl | rfl | rfl | rfl
  ·exact z _ _
  ·rw[bu];omega
  ·exact z _ _
  ·rw[bu];omega
  ·exact z _ _
  ·rw[bu];omega
theorem MB {h0 h:ab} {C:List Ck} {H:List Nat} {K:Value->ab->Prop} {B:List Ck} {front name:ByteArray} {ds:List ByteArray} {dA:QR} {dC:Nat} (Q:Sq h0 C h ((wX b u A c 2 l++[Ck.sl eS 9 dA ds.length dC ds])++B)) (hd:Hd H B) (hl:l.length<=30000000) (hf:front.size<=1000/\name.size<=1000) (hds:∃m,ds.length=2*m/\m<=10) (hdl:∀x∈ds,x.size<=100000)
  (R:∀A' c' h2,Sq h0 C h2 (wX b true A' c' 2 (l++elX 2 front name ds)++B)->K (.tuple #[]) h2):
  QG 33 #[.pointer (some ⟨b,0,none⟩),.string front,.string name,.slice dA ds.length dC] h H K:=by
 refine ao (aF (wX b u A c 2 l++[Ck.sl eS 9 dA ds.length dC ds])) (MN (Q.pick [0,1,2] (by simp[ib,wX];decide)).hp Qz hl hf hds hdl) (fun x hx=>(hd.apart Q x hx).2) (fun _ _ r=>r.2.choose_spec.choose_spec.fr) ?_
 rintro v2 h2 ⟨rfl,A2,c2,q2⟩
 exact R A2 c2 h2 (Sq.del (Sq.call Q q2))
theorem bsz (a b:ByteArray):(a++b).size=a.size+b.size:=ByteArray.size_append
end
theorem Gd {front name:ByteArray} {ds:List ByteArray} (hf:front.size<=200/\name.size<=100) (hd:ds.length<=2) (hs:∀x∈ds,x.size<=100):(elX 2 front name ds).length<=1200:=by
 have e1:(⟨#[47,62]⟩:ByteArray).size=2:=rfl
 have e2:(⟨#[62]⟩:ByteArray).size=1:=rfl
 have e3:(⟨#[60,47]⟩:ByteArray).size=2:=rfl
 have dl:(jW (2+1) ds).length<=_:=qG 3 100 ds hs
 unfold elX
 split
 ·rw[dY];simp only[fu,fv];omega
 ·rw[List.length_append,List.length_append,dY,dY]
  simp only[fu,fv]
  have:ds.length*(2*3+2*100+30)<=2*(2*3+2*100+30):=Nat.mul_le_mul_right _ hd
  omega
def ndE (es:Es):List (Nat × Nat):=es.map fun e=>(e.1.toNat,e.2.toNat)
theorem wK (tx:Nat->QS) {es:List (Nat × Nat)} {ws:List Nat} {k:Nat} {e:Nat × Nat} (h:es[k]? =some e):fq tx (es.drop k) (ws.drop k)=ji tx ws[k]? e++fq tx (es.drop (k+1)) (ws.drop (k+1)):=by
 have hk:=(List.getElem?_eq_some_iff.1 h).1
 rw[List.drop_eq_getElem_cons hk,(List.getElem?_eq_some_iff.1 h).2,fq,List.head?_drop,List.tail_drop]
section
variable {gl:GL} {b c:Nat} {u:Bool} {A:QR} {l:QS} {h:ab} {tx:Nat->QS} {esc:ByteArray->QS} {aE aL aS aW:QR} {nE cE nL cL nS cS nW cW n:Nat} {es:Es} {ls:List ByteArray} {ss:List (Nat × Nat)} {ws:List Nat} {dir:Bool}
set_option maxHeartbeats 2000000 in
theorem MC (Hm:Hp h (wX b true A c 2 l++dV gl aE nE cE es aL nL cL ls aS nS cS ss aW nW cW ws)) (hn:n<=1024) (hE:es.length<=3072) (hends:∀e∈es,(0<=e.1/\e.1<=1024)/\0<=e.2/\e.2<=1024) (hL:ls=[]\/ls.length=n) (hS:ss=[]\/ss.length=n) (hW:ws=[]\/ws.length=es.length)
  (hesc:∀x∈ls,CN gl esc x) (ht:∀p∈ss,sM gl tx p.1/\sM gl tx p.2) (htw:∀x∈ws,sM gl tx x) (hl:l.length<=10000):
  QH 14 #[.pointer (some ⟨b,0,none⟩),.agg #[QM (n:Int),.slice aE nE cE,.bool dir,.slice aL nL cL,.slice aS nS cS,.slice aW nW cW]] h fun w h'=>w= .tuple #[]/\
   (∃A' c',Sq h (wX b true A c 2 l++dV gl aE nE cE es aL nL cL ls aS nS cS ss aW nW cW ws) h' (wX b true A' c' 2 (l++(fp tx esc ls ss n 0++fq tx (ndE es) ws))++dV gl aE nE cE es aL nL cL ls aS nS cS ss aW nW cW ws))/\(l++(fp tx esc ls ss n 0++fq tx (ndE es) ws)).length<=30000000:=by
 apply G7
 unfold S14
 obtain⟨C,hC⟩:∃C,C=wX b true A c 2 l++dV gl aE nE cE es aL nL cL ls aS nS cS ss aW nW cW ws:=⟨_,rfl⟩
 rw[<-hC]
 intro h1
 have Q1:Sq h C h1 (wX b true A c 2 l++(dV gl aE nE cE es aL nL cL ls aS nS cS ss aW nW cW ws++[Ck.junk h.size])):=by
  rw[hC]
  exact⟨(Sy.start Hm).junk _,fun x hx=>.inl (by simpa[rds,Ck.junk]using hx)⟩
 clear_value h1
 have lE:=Q1.sy.lenV 3 rfl
 have lL:=Q1.sy.lenV 4 rfl
 have lS:=Q1.sy.lenV 5 rfl
 have lW:=Q1.sy.lenV 6 rfl
 have hd:∀{X:List Ck},Hd [h.size] (dV gl aE nE cE es aL nL cL ls aS nS cS ss aW nW cW ws++(Ck.junk h.size::X)):=by
  intro X x hx
  simp only[List.mem_singleton]at hx
  subst hx
  exact⟨5,rfl⟩
 refine⟨fun lz h'=>∃(k:Nat) (A':QR) (c':Nat) (l':QS),lz=[QM (k:Int)]/\k<=n/\Sq h C h' (wX b true A' c' 2 l'++(dV gl aE nE cE es aL nL cL ls aS nS cS ss aW nW cW ws++[Ck.junk h.size]))/\l'++fp tx esc ls ss (n-k) k=l++fp tx esc ls ss n 0/\l'.length<=10000+25000*k,
  mI n,⟨0,A,c,l,rfl,Nat.zero_le _,Q1,rfl,Qz⟩,?_⟩
 rintro x h2 ⟨k,A2,c2,l2,e,hk,Q2,el2,bl2⟩
 cases e
 refine af (fun q=>?_) fun q=>?_
 ·--a node
  have hkn:k<n:=by omega
  refine⟨fun lz h'=>∃dA dC,lz=[.slice dA (dD tx esc ls[k]? none).length dC]/\Sq h C h' (wX b true A2 c2 2 l2++(dV gl aE nE cE es aL nL cL ls aS nS cS ss aW nW cW ws++[Ck.junk h.size,Ck.sl eS 9 dA (dD tx esc ls[k]? none).length dC (dD tx esc ls[k]? none)])),af (fun q1=>?_) fun q1=>?_,?_⟩
  ·have hlen:k<ls.length:=by rcases hL with rfl | e<;>simp at* <;>omega
   have hx:ls[k]? =some ls[k]:=List.getElem?_eq_getElem hlen
   obtain⟨g,o,hg,-⟩:=Q2.sy.atV 4 rfl (i:=(k:Int)) Qz Qz
   obtain⟨ce,ce2⟩:=hesc _ (List.getElem_mem hlen)
   have cx:=Q2.sy.cellV 4 rfl hg (i:=k) (t:=0) hx rfl
   rw[hx]
   generalize ls[k]=y at*
   refine⟨g,o,hg,Qz,Qz,y,by rw[Int.toNat_natCast];exact cx,?_⟩
   refine ao [] (ce _ (Q2.sy.glo 2 rfl)) QB (fun _ _ r=>r.2) ?_
   rintro v h3 ⟨rfl,f3⟩
   refine⟨_,rfl,?_⟩
   intro h4
   have Qa:=Q2.gr f3
   have Qb:Sq h C h4 (wX b true A2 c2 2 l2++(dV gl aE nE cE es aL nL cL ls aS nS cS ss aW nW cW ws++[Ck.junk h.size])++[Ck.junk h3.size]):=Qa.add1 (Qa.sy.junk _) rfl
   have Q4:=Qb.add1 (Qb.sy.nilS eS 9) rfl
   clear_value h4
   refine⟨_,Q4.sy.ownS 9 rfl,by simp[ai],QA,QA,fun sA sC h5 ow f gg _=>⟨sA,sC,rfl,?_⟩⟩
   exact(⟨Q4.sy.appS 9 rfl [(⟨#[100,48]⟩:ByteArray),G.mkB (esc y)] ow f gg rfl rfl,Q4.ri⟩:Sq h C h5 _).pick [0,1,2,3,4,5,6,7,9] rfl
  ·have hx:ls[k]? =none:=by rw[List.getElem?_eq_none];omega
   rw[hx]
   exact⟨none,0,rfl,Q2.add1 (Q2.sy.nilS eS 9) rfl⟩
  rintro dA dL dC h6 ⟨dA',dC',e,Q6⟩
  cases e
  have dl:(dD tx esc ls[k]? none).length<=2:=by cases ls[k]? <;>simp[dD]
  refine⟨fun lz h'=>∃dA dC,lz=[.slice dA (dD tx esc ls[k]? ss[k]?).length dC]/\Sq h C h' (wX b true A2 c2 2 l2++(dV gl aE nE cE es aL nL cL ls aS nS cS ss aW nW cW ws++[Ck.junk h.size,Ck.sl eS 9 dA (dD tx esc ls[k]? ss[k]?).length dC (dD tx esc ls[k]? ss[k]?)])),af (fun q1=>?_) fun q1=>?_,?_⟩
  ·have hlen:k<ss.length:=by rcases hS with rfl | e<;>simp at* <;>omega
   have hx:ss[k]? =some ss[k]:=List.getElem?_eq_getElem hlen
   obtain⟨g,o,hg,hgr,-⟩:=Q6.sy.atV 5 rfl (i:=(k:Int)) Qz Qz
   obtain⟨⟨t1,tl1⟩,t2,tl2⟩:=ht _ (List.getElem_mem hlen)
   have cx:=Q6.sy.cellV 5 rfl hg (i:=k) (t:=0) hx rfl
   have cy:=Q6.sy.cellV 5 rfl hg (i:=k) (t:=1) hx rfl
   rw[hx]
   have ed:dD tx esc ls[k]? (some ss[k])=dD tx esc ls[k]? none++[⟨#[100,49]⟩,G.mkB (tx ss[k].1),⟨#[100,50]⟩,G.mkB (tx ss[k].2)]:=by simp[dD]
   have edl:(dD tx esc ls[k]? (some ss[k])).length=(dD tx esc ls[k]? none).length+4:=by rw[ed,List.length_append];rfl
   rw[edl,ed]
   generalize ss[k]=y at*
   have gn:g∉ai dA:=fun w=>(Q6.sy.hp.ap 8 5 _ _ QA rfl rfl g w).2 hgr
   refine⟨ai dA,?_,g,o,hg,Qz,Qz,gn,y.1,by rw[Int.toNat_natCast];exact cx,g,o,hg,Qz,Qz,gn,y.2,by rw[Int.toNat_natCast];exact cy,?_⟩
   ·intro z hz w
    simp only[List.mem_singleton]at hz
    subst hz
    exact Q6.sy.nJ 8 7 rfl rfl rfl w
   refine ao [] (t1 _ (Q6.sy.glo 2 rfl)) QB (fun _ _ r=>r.2) ?_
   rintro v h7 ⟨rfl,f7⟩
   have Q7:=Q6.gr f7
   refine⟨_,rfl,f7.nil,?_⟩
   refine ao [] (t2 _ (Q7.sy.glo 2 rfl)) QB (fun _ _ r=>r.2) ?_
   rintro v h8 ⟨rfl,f8⟩
   have Q8:=Q7.gr f8
   refine⟨_,rfl,(f7.trans f8).nil,?_⟩
   intro h9
   have Q9:=Q8.add1 (Q8.sy.junk (.cells #[.string (⟨#[100,49]⟩:ByteArray),.string (G.mkB (tx y.1)),.string (⟨#[100,50]⟩:ByteArray),.string (G.mkB (tx y.2))] 9)) rfl
   have f9:Fr (ai dA) h6 h9:=((f7.trans f8).trans (Fr.push _ _)).nil
   refine⟨f9,_,Q9.sy.ownS 8 rfl,fun z hz w=>?_,Qz,by simp only[maxLen];omega,fun sA sC h10 ow f gg _=>⟨f9.trans f,sA,sC,rfl,?_⟩⟩
   ·simp only[List.mem_cons,List.not_mem_nil,or_false]at hz
    rcases hz with rfl | rfl
    ·exact Q9.sy.nJ 8 9 rfl rfl rfl w
    ·exact Q9.sy.nJ 8 7 rfl rfl rfl w
   exact(⟨Q9.sy.appS 8 rfl [(⟨#[100,49]⟩:ByteArray),G.mkB (tx y.1),⟨#[100,50]⟩,G.mkB (tx y.2)] ow f gg rfl rfl,Q9.ri⟩:Sq h C h10 _).pick [0,1,2,3,4,5,6,7,8] rfl
  ·have hx:ss[k]? =none:=by rw[List.getElem?_eq_none];omega
   rw[hx]
   exact⟨dA,dC,rfl,Q6⟩
  rintro eA eL eC h11 ⟨eA',eC',e,Q11⟩
  cases e
  refine ao [] (Jt (Q11.sy.glo 2 rfl) Qz) QB (fun _ _ r=>r.2) ?_
  rintro v h12 ⟨rfl,f12⟩
  have dk:=qv (n:=k) Qz
  have e11:(⟨#[60,110,111,100,101,32,105,100,61,34,110]⟩:ByteArray).size=11:=rfl
  have e1:(⟨#[34]⟩:ByteArray).size=1:=rfl
  have e4:(⟨#[110,111,100,101]⟩:ByteArray).size=4:=rfl
  refine⟨_,rfl,by rw[bu];omega,by rw[bsz,bu];omega,?_⟩
  obtain⟨ds1,ds2⟩:=CO (tx:=tx) (esc:=esc) (x:=ls[k]?) (p:=ss[k]?) (fun y hy=>(hesc y (List.mem_of_getElem? hy)).2) fun y hy=>⟨(ht y (List.mem_of_getElem? hy)).1.2,(ht y (List.mem_of_getElem? hy)).2.2⟩
  have Q12:Sq h C h12 ((wX b true A2 c2 2 l2++[Ck.sl eS 9 eA (dD tx esc ls[k]? ss[k]?).length eC (dD tx esc ls[k]? ss[k]?)])++(dV gl aE nE cE es aL nL cL ls aS nS cS ss aW nW cW ws++[Ck.junk h.size])):=(Q11.gr f12).pick [0,1,8,2,3,4,5,6,7] rfl
  refine MB Q12 hd Qz ⟨by rw[bsz,bsz,bu];omega,Qz⟩ (by obtain⟨m,a1,a2⟩:=ds1;exact⟨m,a1,Qz⟩) (fun x hx=>by have:=ds2 x hx;omega) fun A13 c13 h13 Q13=>⟨rfl,?_⟩
  rw[wrN Qz]
  refine⟨⟨k+1,A13,c13,_,rfl,hkn,Q13,?_,?_⟩,by simp only[mI];omega⟩
  ·rw[<-el2,show n-k=(n-(k+1))+1 by omega,fp,List.append_assoc];rfl
  ·have:=Ab (front:=((⟨#[60,110,111,100,101,32,105,100,61,34,110]⟩:ByteArray)++G.mkB (G.dec k))++(⟨#[34]⟩:ByteArray)) (name:=⟨#[110,111,100,101]⟩) (ds:=dD tx esc ls[k]? ss[k]?) ⟨by rw[bsz,bsz,bu];omega,Qz⟩ (by obtain⟨m,a1,a2⟩:=ds1;omega) ds2
   rw[List.length_append];omega
 ·--the edges
  have hkn:k=n:=by omega
  subst hkn
  rw[Nat.sub_self,fp,List.append_nil]at el2
  have mpn:∀{j:Nat} {e:Int × Int},es[j]? =some e->(ndE es)[j]? =some (e.1.toNat,e.2.toNat):=fun{j e} he=>by unfold ndE;rw[List.getElem?_map,he];rfl
  refine⟨fun lz h'=>∃(j:Nat) (A':QR) (c':Nat) (l':QS),lz=[QM (j:Int)]/\j<=es.length/\Sq h C h' (wX b true A' c' 2 l'++(dV gl aE nE cE es aL nL cL ls aS nS cS ss aW nW cW ws++[Ck.junk h.size]))/\l'++fq tx ((ndE es).drop j) (ws.drop j)=l2++fq tx (ndE es) ws/\l'.length<=25610000+1200*j,
   mI es.length,⟨0,A2,c2,l2,rfl,Nat.zero_le _,Q2,rfl,Qz⟩,?_⟩
  rintro x h14 ⟨j,A3,c3,l3,e,hj,Q3,el3,bl3⟩
  cases e
  refine af (fun q2=>?_) fun q2=>?_
  ·have hjl:j<es.length:=by omega
   have he:es[j]? =some es[j]:=List.getElem?_eq_getElem hjl
   obtain⟨g,o,hg,-⟩:=Q3.sy.atV 3 rfl (i:=(j:Int)) Qz Qz
   have cx:=Q3.sy.cellV 3 rfl hg (i:=j) (t:=0) he rfl
   have cy:=Q3.sy.cellV 3 rfl hg (i:=j) (t:=1) he rfl
   obtain⟨⟨e1,e2⟩,e3,e4⟩:=hends _ (List.getElem_mem hjl)
   have hm:=mpn he
   generalize es[j]=y at*
   obtain⟨y1,y2⟩:=y
   obtain⟨p1,rfl⟩:∃p1:Nat,y1=(p1:Int):=⟨y1.toNat,by simp at e1;omega⟩
   obtain⟨p2,rfl⟩:∃p2:Nat,y2=(p2:Int):=⟨y2.toNat,by simp at e3;omega⟩
   simp only[Int.toNat_natCast]at hm
   refine⟨g,o,hg,Qz,Qz,(p1:Int),by rw[Int.toNat_natCast];exact cx,(p2:Int),by rw[Int.toNat_natCast];exact cy,?_⟩
   intro h15 h16
   have Q16:Sq h C h16 (wX b true A3 c3 2 l3++(dV gl aE nE cE es aL nL cL ls aS nS cS ss aW nW cW ws++[Ck.junk h.size,Ck.junk h14.size])):=by
    have Qa:Sq h C h15 (wX b true A3 c3 2 l3++(dV gl aE nE cE es aL nL cL ls aS nS cS ss aW nW cW ws++[Ck.junk h.size,Ck.junk h14.size])):=Q3.add1 (Q3.sy.junk _) rfl
    exact⟨(Qa.sy.stJ 8 rfl 0 _).stJ 8 rfl (0+1) _,Qa.ri⟩
   clear_value h16
   clear h15
   refine⟨fun lz h'=>∃dA dC,lz=[.slice dA (ku tx ws[j]?).length dC]/\Sq h C h' (wX b true A3 c3 2 l3++(dV gl aE nE cE es aL nL cL ls aS nS cS ss aW nW cW ws++[Ck.junk h.size,Ck.junk h14.size,Ck.sl eS 9 dA (ku tx ws[j]?).length dC (ku tx ws[j]?)])),af (fun q1=>?_) fun q1=>?_,?_⟩
   ·have hlen:j<ws.length:=by rcases hW with rfl | e<;>simp at* <;>omega
    have hx:ws[j]? =some ws[j]:=List.getElem?_eq_getElem hlen
    obtain⟨g2,o2,hg2,-⟩:=Q16.sy.atV 6 rfl (i:=(j:Int)) Qz Qz
    obtain⟨t1,tl1⟩:=htw _ (List.getElem_mem hlen)
    have cw:=Q16.sy.cellV 6 rfl hg2 (i:=j) (t:=0) hx rfl
    rw[hx]
    generalize ws[j]=y at*
    refine⟨g2,o2,hg2,Qz,Qz,y,by rw[Int.toNat_natCast];exact cw,?_⟩
    refine ao [] (t1 _ (Q16.sy.glo 2 rfl)) QB (fun _ _ r=>r.2) ?_
    rintro v h17 ⟨rfl,f17⟩
    have Q17:=Q16.gr f17
    refine⟨_,rfl,?_⟩
    intro h18
    have Qb:Sq h C h18 (wX b true A3 c3 2 l3++(dV gl aE nE cE es aL nL cL ls aS nS cS ss aW nW cW ws++[Ck.junk h.size,Ck.junk h14.size])++[Ck.junk h17.size]):=Q17.add1 (Q17.sy.junk _) rfl
    have Q18:=Qb.add1 (Qb.sy.nilS eS 9) rfl
    clear_value h18
    refine⟨_,Q18.sy.ownS 10 rfl,by simp[ai],QA,QA,fun sA sC h19 ow f gg _=>⟨sA,sC,rfl,?_⟩⟩
    exact(⟨Q18.sy.appS 10 rfl [(⟨#[100,51]⟩:ByteArray),G.mkB (tx y)] ow f gg rfl rfl,Q18.ri⟩:Sq h C h19 _).pick [0,1,2,3,4,5,6,7,8,10] rfl
   ·have hx:ws[j]? =none:=by rw[List.getElem?_eq_none];omega
    rw[hx]
    exact⟨none,0,rfl,Q16.add1 (Q16.sy.nilS eS 9) rfl⟩
   rintro dA dL dC h20 ⟨dA',dC',e,Q20⟩
   cases e
   refine ao [] (Jt (Q20.sy.glo 2 rfl) (by simp at e2;omega)) QB (fun _ _ r=>r.2) ?_
   rintro v h21 ⟨rfl,f21⟩
   have Q21:=Q20.gr f21
   have d1:=qv (n:=p1) (by simp at e2;omega)
   have d2:=qv (n:=p2) (by simp at e4;omega)
   have z15:(⟨#[60,101,100,103,101,32,115,111,117,114,99,101,61,34,110]⟩:ByteArray).size=15:=rfl
   have z11:(⟨#[34,32,116,97,114,103,101,116,61,34,110]⟩:ByteArray).size=11:=rfl
   have z1:(⟨#[34]⟩:ByteArray).size=1:=rfl
   have z4:(⟨#[101,100,103,101]⟩:ByteArray).size=4:=rfl
   refine⟨_,rfl,f21,by rw[bu];omega,by rw[bsz,bu];omega,?_⟩
   refine ao [] (Jt (Q21.sy.glo 2 rfl) (by simp at e4;omega)) QB (fun _ _ r=>r.2) ?_
   rintro v h22 ⟨rfl,f22⟩
   refine⟨_,rfl,f21.trans f22,by rw[bsz,bsz,bu,bu];omega,by rw[bsz,bsz,bsz,bu,bu];omega,?_⟩
   have Q22:Sq h C h22 ((wX b true A3 c3 2 l3++[Ck.sl eS 9 dA (ku tx ws[j]?).length dC (ku tx ws[j]?)])++(dV gl aE nE cE es aL nL cL ls aS nS cS ss aW nW cW ws++[Ck.junk h.size,Ck.junk h14.size])):=(Q21.gr f22).pick [0,1,9,2,3,4,5,6,7,8] rfl
   have hd2:Hd [h.size,h14.size] (dV gl aE nE cE es aL nL cL ls aS nS cS ss aW nW cW ws++[Ck.junk h.size,Ck.junk h14.size]):=by
    intro x hx
    simp only[List.mem_cons,List.not_mem_nil,or_false]at hx
    rcases hx with rfl | rfl
    ·exact⟨5,rfl⟩
    ·exact⟨6,rfl⟩
   have dsz:(∃m,(ku tx ws[j]?).length=2*m/\m<=1)/\∀y∈ku tx ws[j]?,y.size<=100:=by
    cases hx:ws[j]? with
    | none=>exact⟨⟨0,rfl,Qz⟩,fun y hy=>by simp[ku]at hy⟩
    | some w=>
     refine⟨⟨1,rfl,Qz⟩,fun y hy=>?_⟩
     simp only[ku,List.mem_cons,List.not_mem_nil,or_false]at hy
     rcases hy with rfl | rfl
     ·show 2<=100;omega
     ·rw[bu];exact(htw w (List.mem_of_getElem? hx)).2
   obtain⟨ds1,ds2⟩:=dsz
   refine MB Q22 hd2 Qz ⟨by rw[bsz,bsz,bsz,bsz,bu,bu];omega,Qz⟩ (by obtain⟨m,a1,a2⟩:=ds1;exact⟨m,a1,Qz⟩) (fun x hx=>by have:=ds2 x hx;omega) fun A13 c13 h13 Q13=>⟨rfl,?_⟩
   rw[wrN Qz]
   refine⟨⟨j+1,A13,c13,_,rfl,hjl,Q13.pick [0,1,2,3,4,5,6,7] rfl,?_,?_⟩,by simp only[mI];omega⟩
   ·rw[<-el3,wK tx hm,List.append_assoc];rfl
   ·have:=Gd (front:=((((⟨#[60,101,100,103,101,32,115,111,117,114,99,101,61,34,110]⟩:ByteArray)++G.mkB (G.dec p1))++(⟨#[34,32,116,97,114,103,101,116,61,34,110]⟩:ByteArray))++G.mkB (G.dec p2))++(⟨#[34]⟩:ByteArray)) (name:=⟨#[101,100,103,101]⟩) (ds:=ku tx ws[j]?) ⟨by rw[bsz,bsz,bsz,bsz,bu,bu];omega,Qz⟩ (by obtain⟨m,a1,a2⟩:=ds1;omega) ds2
    rw[List.length_append];omega
  ·have hjl:j=es.length:=by omega
   have en:(ndE es).drop j=[]:=by rw[List.drop_eq_nil_iff];unfold ndE;rw[List.length_map];omega
   rw[en,fq,List.append_nil]at el3
   rw[<-List.append_assoc,<-el2,<-el3]
   refine⟨rfl,⟨A3,c3,?_⟩,Qz⟩
   rw[hC]
   exact hC▸Q3.pick [0,1,2,3,4,5,6] rfl
end
def qL :ByteArray:=⟨#[60,63,120,109,108,32,118,101,114,115,105,111,110,61,34,49,46,48,34,32,101,110,99,111,100,105,110,103,61,34,85,84,70,45,56,34,63,62]⟩
def qM :ByteArray:=⟨#[60,103,114,97,112,104,109,108,32,120,109,108,110,115,61,34,104,116,116,112,58,47,47,103,114,97,112,104,109,108,46,103,114,97,112,104,100,114,97,119,105,110,103,46,111,114,103,47,120,109,108,110,115,34,62]⟩
def mq (dir:Bool):ByteArray:=if dir=true then⟨#[100,105,114,101,99,116,101,100]⟩else⟨#[117,110,100,105,114,101,99,116,101,100]⟩
def gH (dir:Bool) (nL nS nW:Nat):QS:=lnX 0 [qL]++lnX 0 [qM]++nz nL nS nW++lnX 1 [⟨#[60,103,114,97,112,104,32,101,100,103,101,100,101,102,97,117,108,116,61,34]⟩,mq dir,⟨#[34,62]⟩]
def wrX (tx:Nat->QS) (esc:ByteArray->QS) (n:Nat) (dir:Bool) (es:List (Nat × Nat)) (ls:List ByteArray) (ss:List (Nat × Nat)) (ws:List Nat):QS:=
 gH dir ls.length ss.length ws.length++(fp tx esc ls ss n 0++fq tx es ws)++lnX 1 [⟨#[60,47,103,114,97,112,104,62]⟩]++lnX 0 [⟨#[60,47,103,114,97,112,104,109,108,62]⟩]
def oS (tx:Nat->QS) (esc:ByteArray->QS) (n:Int) (dir:Bool) (es:Es) (ls:List ByteArray) (ss:List (Nat × Nat)) (ws:List Nat):QS × Int:=
 if gv n es ls ss ws=false then([],1)else if 262144<(wrX tx esc n.toNat dir (ndE es) ls ss ws).length then([],23)else(wrX tx esc n.toNat dir (ndE es) ls ss ws,0)
section
variable {gl:GL} {h:ab} {tx:Nat->QS} {esc:ByteArray->QS} {aE aL aS aW:QR} {nE cE nL cL nS cS nW cW:Nat} {n:Int} {es:Es} {ls:List ByteArray} {ss:List (Nat × Nat)} {ws:List Nat} {dir:Bool}
set_option maxHeartbeats 4000000 in
theorem ok6 (Hm:Hp h (dV gl aE nE cE es aL nL cL ls aS nS cS ss aW nW cW ws)) (hsz:∀s∈ls,s.size<=9223372036854775807) (hll:ls.length<=9223372036854775807) (hesc:gv n es ls ss ws=true->∀x∈ls,CN gl esc x) (ht:∀p∈ss,sM gl tx p.1/\sM gl tx p.2) (htw:∀x∈ws,sM gl tx x):
  QH 6 #[.agg #[QM n,.slice aE nE cE,.bool dir,.slice aL nL cL,.slice aS nS cS,.slice aW nW cW]] h fun w h'=>w= .tuple #[.string (G.mkB (oS tx esc n dir es ls ss ws).1),QM (oS tx esc n dir es ls ss ws).2]/\Fr [] h h':=by
 apply JX
 unfold S6
 obtain⟨C,hC⟩:∃C,C=dV gl aE nE cE es aL nL cL ls aS nS cS ss aW nW cW ws:=⟨_,rfl⟩
 have oC:aF C=[]:=by rw[hC];rfl
 intro h1
 obtain⟨B,hB⟩:∃B,B=dV gl aE nE cE es aL nL cL ls aS nS cS ss aW nW cW ws++[Ck.junk h.size]:=⟨_,rfl⟩
 have Q1:Sq h C h1 B:=by
  rw[hC,hB]
  exact⟨(Sy.start Hm).junk _,fun x hx=>.inl (by simpa[rds,Ck.junk]using hx)⟩
 have fin:∀{cs:List Ck} {h':ab},Sq h C h' cs->Fr [] h h':=fun Q=>by have:=Q.fr;rw[oC]at this;exact this
 have lL:=Q1.sy.lenV (k:=2) (by rw[hB];rfl)
 have lS:=Q1.sy.lenV (k:=3) (by rw[hB];rfl)
 have lW:=Q1.sy.lenV (k:=4) (by rw[hB];rfl)
 refine ao (R:=fun v h'=>v= .bool (gv n es ls ss ws)/\Fr [] h1 h') [] ?_ QB (fun _ _ r=>r.2) ?_
 ·refine(Mn (n:=n) (es:=es) (dr:=dir) (ls:=ls) (ss:=ss) (ws:=ws) (R:=fun r=>r=gv n es ls ss ws) hsz hll rfl h1 aE nE cE aL nL cL aS nS cS aW nW cW (by rw[hB]at Q1;exact(Q1.pick [1,2,3,4] rfl).hp)).mono ?_
  rintro v h' ⟨r,Y,rfl,rfl⟩
  exact⟨rfl,Y.fr⟩
 rintro v h2 ⟨rfl,f2⟩
 have Q2:=Q1.gr f2
 refine⟨_,rfl,bo (fun q=>⟨?_,fin Q2⟩) fun q=>?_⟩
 ·unfold oS;rw[if_pos q];rfl
 have hm:=q
 unfold gv at hm
 simp only[Bool.and_eq_true]at hm
 obtain⟨m1,m2,m3,m4,m5⟩:=hm
 obtain⟨g0,g1,gm,ge⟩:=Jr m1
 obtain⟨N,rfl⟩:∃N:Nat,n=(N:Int):=⟨n.toNat,Qz⟩
 have hN:N<=1024:=by omega
 have non:∀{a b:Nat},nt (a:Int) (b:Int)=true->a=0\/a=b:=fun{a b} h=>by unfold nt at h;grind
 have hL:ls=[]\/ls.length=N:=(non m2).imp List.eq_nil_of_length_eq_zero id
 have hS:ss=[]\/ss.length=N:=(non m3).imp List.eq_nil_of_length_eq_zero id
 have hW:ws=[]\/ws.length=es.length:=(non m4).imp List.eq_nil_of_length_eq_zero id
 have hends:∀e∈es,(0<=e.1/\e.1<=1024)/\0<=e.2/\e.2<=1024:=fun e he=>by
  obtain⟨i,hi⟩:=List.mem_iff_getElem?.1 he
  have:=ge i e hi
  omega
 have hd:Hd [h.size] B:=by
  intro x hx
  simp only[List.mem_singleton]at hx
  subst hx
  exact⟨5,by rw[hB];rfl⟩
 intro h3
 have Q3:Sq h C h3 (wX h2.size false none 0 0 []++B):=by
  rw[hB]at Q2 ⊢
  have Y:=((Q2.sy.newO (ty:=47) [.pointer none,.slice none 0 0,QM 0]).nilS (eK .u8) 5).pick [6,7,0,1,2,3,4,5] rfl
  exact⟨Y,fun x hx=>Q2.ri x (by simpa[rds,wX,dV,Ck.ob,Ck.sl,Ck.junk,pk]using hx)⟩
 have bh:h2.size≠h.size:=by
  have:h1.size=h.size+1:=by simp[h1]
  have:=f2.size
  omega
 clear_value h3
 generalize h2.size=b at*
 refine sS (ws:=[qL]) Q3 hd Qz QA QA fun A5 c5 h5 Q5=>⟨rfl,?_⟩
 refine sS (ws:=[qM]) Q5 hd Qz QA QA fun A7 c7 h7 Q7=>⟨rfl,?_⟩
 have w2:∀{A:QR} {c d:Nat} {l:QS} {hx:ab},Sq h C hx (wX b true A c d l++B)->ac hx b (0+2)=some (QM (d:Int))/\au hx b (0+2)=true:=fun Q=>⟨Q.sy.cellO 0 rfl 2 rfl,Q.sy.freeO 0 rfl 2⟩
 have w3:∀{A:QR} {c d:Nat} {l:QS} {hx:ab} (d':Nat),Sq h C hx (wX b true A c d l++B)->Sq h C (am hx b (0+2) (QM (d':Int))) (wX b true A c d' l++B):=fun d' Q=>⟨Q.sy.stO 0 rfl 2 _,Q.ri⟩
 refine⟨_,(w2 Q7).1,bh,⟨_,(w2 Q7).1⟩,(w2 Q7).2,?_⟩
 intro h8
 have Q8:Sq h C h8 _:=w3 1 Q7
 clear_value h8
 refine wN (Mz (m:=(N:Int)) (aE:=aE) (nE:=nE) (cE:=cE) (dir:=dir) (aL:=aL) (nL:=nL) (cL:=cL) (aS:=aS) (nS:=nS) (cS:=cS) (aW:=aW) (nW:=nW) (cW:=cW) (lT Q8) QA) Q8 hd fun A9 c9 h9 Q9=>⟨rfl,?_⟩
 refine⟨fun lz h'=>lz=[.string (mq dir)]/\h'=h9,cd (fun e=>⟨by rw[e];rfl,rfl⟩) fun e=>⟨by rw[e];rfl,rfl⟩,?_⟩
 rintro kd h10 ⟨hkd,rfl⟩
 obtain rfl:kd=mq dir:=by simpa using hkd
 have kl:(mq dir).size<=10:=by unfold mq;split<;>decide
 have kx:(nz nL nS nW).length<=2000:=by
  unfold nz
  simp only[List.length_append]
  split<;>split<;>split<;>simp[nA,ByteArray.size]
 have z20:(⟨#[60,103,114,97,112,104,32,101,100,103,101,100,101,102,97,117,108,116,61,34]⟩:ByteArray).size=20:=rfl
 have z2:(⟨#[34,62]⟩:ByteArray).size=2:=rfl
 have l0:([]++lnX 0 [qL]++lnX 0 [qM]).length<=200:=by decide
 refine sS (ws:=[⟨#[60,103,114,97,112,104,32,101,100,103,101,100,101,102,97,117,108,116,61,34]⟩,mq dir,⟨#[34,62]⟩]) Q9 hd Qz (by rw[List.length_append];simp only[fu,fv];omega) QB fun A12 c12 h12 Q12=>⟨rfl,?_⟩
 have ef: []++lnX 0 [qL]++lnX 0 [qM]++nz nL nS nW++lnX 1 [⟨#[60,103,114,97,112,104,32,101,100,103,101,100,101,102,97,117,108,116,61,34]⟩,mq dir,⟨#[34,62]⟩]=gH dir ls.length ss.length ws.length:=by
  rw[<-lL,<-lS,<-lW];rfl
 have lf:(gH dir ls.length ss.length ws.length).length<=5000:=by
  rw[<-ef,List.length_append,List.length_append,dY]
  simp only[fu,fv]
  omega
 rw[ef]at Q12
 refine⟨_,(w2 Q12).1,bh,⟨_,(w2 Q12).1⟩,(w2 Q12).2,?_⟩
 intro h13
 have Q13:Sq h C h13 (wX b true A12 c12 2 (gH dir ls.length ss.length ws.length)++B):=w3 2 Q12
 clear_value h13
 have hd1:Hd [h.size] [Ck.junk h.size]:=by
  intro x hx
  simp only[List.mem_singleton]at hx
  subst hx
  exact⟨0,rfl⟩
 have Q13':Sq h C h13 ((wX b true A12 c12 2 (gH dir ls.length ss.length ws.length)++dV gl aE nE cE es aL nL cL ls aS nS cS ss aW nW cW ws)++[Ck.junk h.size]):=by rw[hB,<-List.append_assoc]at Q13;exact Q13
 refine ao (aF (wX b true A12 c12 2 (gH dir ls.length ss.length ws.length)++dV gl aE nE cE es aL nL cL ls aS nS cS ss aW nW cW ws)) (MC (tx:=tx) (esc:=esc) (n:=N) (dir:=dir) (Q13'.pick [0,1,2,3,4,5,6] rfl).hp hN gm hends hL hS hW (hesc q) ht htw Qz) (fun x hx=>(hd1.apart Q13' x hx).2) (fun _ _ r=>r.2.1.choose_spec.choose_spec.fr) ?_
 rintro v h14 ⟨rfl,⟨A14,c14,q14⟩,b14⟩
 have Q14:Sq h C h14 (wX b true A14 c14 2 (gH dir ls.length ss.length ws.length++(fp tx esc ls ss N 0++fq tx (ndE es) ws))++B):=by
  have:=Sq.call Q13' q14
  rw[List.append_assoc,<-hB]at this
  exact this
 generalize hl14:gH dir ls.length ss.length ws.length++(fp tx esc ls ss N 0++fq tx (ndE es) ws)=l14 at Q14 b14
 refine⟨rfl,_,(w2 Q14).1,bh,⟨_,(w2 Q14).1⟩,(w2 Q14).2,?_⟩
 intro h15
 have Q15:Sq h C h15 (wX b true A14 c14 1 l14++B):=w3 1 Q14
 clear_value h15
 refine sS (ws:=[⟨#[60,47,103,114,97,112,104,62]⟩]) Q15 hd Qz (by show l14.length+8<=_;omega) QA fun A17 c17 h17 Q17=>⟨rfl,?_⟩
 refine⟨_,(w2 Q17).1,bh,⟨_,(w2 Q17).1⟩,(w2 Q17).2,?_⟩
 intro h18
 have Q18:Sq h C h18 (wX b true A17 c17 0 (l14++lnX 1 [⟨#[60,47,103,114,97,112,104,62]⟩])++B):=w3 0 Q17
 clear_value h18
 refine sS (ws:=[⟨#[60,47,103,114,97,112,104,109,108,62]⟩]) Q18 hd Qz (by rw[List.length_append];show l14.length+11+10<=_;omega) QA fun A20 c20 h20 Q20=>⟨rfl,?_⟩
 have ew:l14++lnX 1 [⟨#[60,47,103,114,97,112,104,62]⟩]++lnX 0 [⟨#[60,47,103,114,97,112,104,109,108,62]⟩]=wrX tx esc N dir (ndE es) ls ss ws:=by rw[<-hl14];rfl
 rw[ew]at Q20
 have hv:oS tx esc (N:Int) dir es ls ss ws=if 262144<(wrX tx esc N dir (ndE es) ls ss ws).length then([],23)else(wrX tx esc N dir (ndE es) ls ss ws,0):=by
  unfold oS
  rw[if_neg (by rw[q];decide),Int.toNat_natCast]
 have hne:wrX tx esc N dir (ndE es) ls ss ws≠[]:=by
  rw[<-ew]
  intro z
  have:=congrArg List.length z
  rw[List.length_append,dY]at this
  simp at this
 have H20:=lT Q20
 refine ao [] (Mu H20) QB (fun _ _ r=>Fr.of_eq r.2) ?_
 rintro v h21 ⟨rfl,rfl⟩
 refine⟨_,rfl,af (fun q3=>?_) fun q3=>?_⟩
 ·rw[hv,if_pos Qz]
  exact⟨rfl,fin Q20⟩
 ·rw[hv,if_neg Qz]
  refine ao (aF (wX b true A20 c20 0 (wrX tx esc N dir (ndE es) ls ss ws))) (Mw H20 hne) (fun x hx=>(hd.apart Q20 x hx).2) (fun _ _ r=>r.2) ?_
  rintro v h22 ⟨rfl,f22⟩
  exact⟨_,rfl,rfl,by have:=Sq.frA Q20 f22;rw[oC]at this;exact this⟩
end
end Go.Proofs.YtemphinmoihdaaaGreatDoor.N
