/- strings.Builder inside the writer of GraphML: its methods over chunks. Conditions: none. -/
import Derived.Test.YtlflalecmhgmjaaGreatDoorTEdg
import Derived.Test.YtlflalecmhgmjaaGreatDoorTLib
import Derived.Test.YtlflalecmhgmjaaGreatDoorQRead
import Derived.Tactics
import Derived.Tactics2
import Derived.Laws.Pointers
set_option linter.unusedVariables false
set_option linter.unusedSimpArgs false
open Go.IntKind (i64 u64 u8 i32)
namespace Go.Proofs.YtlflalecmhgmjaaGreatDoor.N
open Go.Proofs.YtlflalecmhgmjaaGreatDoor
open Go.X
open Go.Proofs
set_option maxRecDepth 100000
def wX (b:Nat) (u:Bool) (A:Option Addr) (c d:Nat) (l:List UInt8):List Ck:=
 [Ck.ob b 58 [pU u b,.slice A l.length c,.int .i64 (d:Int)],Ck.sl (eK .u8) 5 A l.length c (bI l)]
set_option maxHeartbeats 1000000 in
theorem pK (b:Nat) (w:World) (h0:w.cell? ⟨b,0,none⟩=some (.pointer none)) (hsh:w.shape? b=some (58,3)) (hfz:w.frozen? ⟨b,0,none⟩=false):
  Calls Tryz.prog 128 #[.pointer (some ⟨b,0,none⟩)] w fun e w'=>e= .returned (.tuple #[])/\w'=w.setCell ⟨b,0,none⟩ (.pointer (some ⟨b,0,none⟩)):=by
 obtain⟨j,hj,hjs⟩:=Option.map_eq_some_iff.1 (show(Tryz.prog.info? 56).map (·.size)=some 2 by kernel_rfl)
 have t70:Tryz.prog.underlying 54=some (.pointer 56):=by kernel_rfl
 have t164:Tryz.prog.underlying 206=some .unsafePointer:=by kernel_rfl
 go_enter Tryz.func128,Tryz.ntmps128
 go_wp2
 rw[Lib.run_to_unsafe w ⟨b,0,none⟩ t70 t164 hj (by rw[hjs];decide) hsh (by show 0<3;decide)]
 simp only[Result.andThen]
 rw[Oper.upon_value]
 go_wp2
 rw[run_callFunc_extern Tryz.func172 (by kernel_rfl) (by kernel_rfl) (by kernel_rfl) (e:=Extern.AbiNoEscape.same) (by kernel_rfl)]
 rw[Lib.run_noEscape]
 simp only[Result.andThen]
 rw[Oper.upon_value]
 go_wp2
 rw[Lib.run_from_unsafe w ⟨b,0,none⟩ t164 t70 hj hsh (by kernel_rfl)]
 simp only[Result.andThen]
 rw[Oper.upon_value]
 go_wp2
 go_end0
 exact⟨rfl,rfl⟩
set_option maxHeartbeats 2000000 in
theorem AB {b g cap:Nat} {p dv:Value} {l:List UInt8} {cur:Array Value} (w:World) (h0:l≠[]) (hb:w.heap[b]? =some (.cells #[p,.slice (some ⟨g,0,none⟩) l.length cap,dv] 58 (0,0)))
  (hg:Blk w.heap g 5 cur) (hnc:l.length<=cap) (hcm:cap<=maxLen) (hcs:cap*1<=cur.size) (ht:cur.toList.take (l.length*1)=(eK .u8).l (bI l)):
  Calls Tryz.prog 44 #[.pointer (some ⟨b,0,none⟩)] w fun e w'=>e= .returned (.string ⟨l.toArray⟩)/\Go.X.Rest w w'/\Fr [g] w.heap w'.heap:=by
 have hl0:l.length≠0:=by simpa using h0
 have t127:Tryz.prog.underlying 139=some (.pointer 5):=by kernel_rfl
 have cB:Tryz.prog.cellsOf 5=1:=by kernel_rfl
 obtain⟨f,hgc,_⟩:=hg
 have hgc:w.heap[g]? =some (.cells cur 5 f):=hgc
 have c1:w.drew.cell? ⟨b,1,none⟩=some (.slice (some ⟨g,0,none⟩) l.length cap):=by
  have:w.drew.heap[b]? =some (.cells #[p,.slice (some ⟨g,0,none⟩) l.length cap,dv] 58 (0,0)):=hb
  rw[Lib.cell_of_heap this];rfl
 have hSD:(Builtin.unsafeSliceData_ #[42] 139 #[.slice (some ⟨g,0,none⟩) l.length cap]).run Tryz.prog w.drew= .ok (.pointer (some ⟨g,0,none⟩)) w.drew:=
  Lib.run_unsafeSliceData_row _ _ _ _ _ _ (by omega)
 have hUS:(Builtin.unsafeString_ #[139,3] 9 #[.pointer (some ⟨g,0,none⟩),.int .i64 l.length]).run Tryz.prog w.drew= .ok (.string ⟨l.toArray⟩) (w.drew.freeze ⟨g,0,none⟩ l.length):=by
  refine Lib.run_unsafeString_row w.drew 139 3 9 5 t127 cB g cur.size (by have hg':w.drew.heap[g]? =some (.cells cur 5 f):=hgc;simp[World.shape?,hg']) l h0 (by omega) (by unfold maxLen at hcm;omega) ?_
  intro j x hx
  have hg':w.drew.heap[g]? =some (.cells cur 5 f):=hgc
  have hj:j<l.length:=(List.getElem?_eq_some_iff.1 hx).1
  have e1:(cur.toList.take (l.length*1))[j]? =some (.int .u8 x.toNat):=by
   rw[ht,oz,bI,List.map_map,List.getElem?_map,hx];rfl
  rw[List.getElem?_take,if_pos (by omega)]at e1
  have ea:((⟨g,0,none⟩:Addr).add j)=⟨g,0+j,none⟩:=by simp[Addr.add];omega
  rw[ea,aV]
  unfold ac
  rw[hg',Nat.zero_add];simpa using e1
 have fz:=tu (w:=w) (g:=g) (n:=l.length)
 have rz:=pF (w:=w) (g:=g) (n:=l.length)
 have mixed:Tryz.prog.follows .mixedOrders=true:=by kernel_rfl
 go_enter Tryz.func44,Tryz.ntmps44
 go_wp2
 go_region_o
 all_goals (go_wp2;go_ret;exact⟨rfl,rz,fz⟩)
section
variable {b c d:Nat} {u:Bool} {A:Option Addr} {l:List UInt8} {h:ab}
theorem uQ (H:Hp h (wX b u A c d l)):ae Tryz.prog 128 #[.pointer (some ⟨b,0,none⟩)] h fun v h'=>v= .tuple #[]/\Sq h (wX b u A c d l) h' (wX b true A c d l):=by
 intro w hw
 subst hw
 have hb:w.heap[b]? =some (.cells #[pU u b,.slice A l.length c,.int .i64 (d:Int)] 58 (0,0)):=H.ok 0 _ rfl
 cases u with
 | true=>
  have h0:w.cell? ⟨b,0,none⟩=some (.pointer (some ⟨b,0,none⟩)):=by rw[aV,aI hb];rfl
  refine(tt b w h0).mono fun e w' r=>?_
  grind [Rest.refl,Sq.start]
 | false=>
  have h0:w.cell? ⟨b,0,none⟩=some (.pointer none):=by rw[aV,aI hb];rfl
  have hsh:w.shape? b=some (58,3):=by simp[World.shape?,hb]
  have hfz:w.frozen? ⟨b,0,none⟩=false:=by simp[World.frozen?,hb]
  refine(pK b w h0 hsh hfz).mono fun e w' r=>?_
  obtain⟨rfl,rfl⟩:=r
  refine⟨_,rfl,Rest.setCell _ _ _,rfl,?_⟩
  rw[heap_setCell]
  exact⟨(Sy.start H).stO 0 rfl 0 (.pointer (some ⟨b,0,none⟩)),fun x hx=>by simp[rds,wX,Ck.ob,Ck.sl]at hx⟩
theorem zU {c' d':Nat} {u':Bool} {A':Option Addr} {l':List UInt8}:rds (wX b u' A' c' d' l')=[]:=rfl
theorem zV {s:ByteArray} (H:Hp h (wX b u A c d l)) (hs:l.length+s.size<=100000000):ae Tryz.prog 86 #[.pointer (some ⟨b,0,none⟩),.string s] h fun v h'=>v= .tuple #[.int .i64 (s.size:Int),.nilIface]/\
  ∃A' c',Sq h (wX b u A c d l) h' (wX b true A' c' d (l++s.data.toList)):=by
 apply yt
 unfold S86
 refine ak (aA (wX b u A c d l)) (uQ H) (by simp) (fun _ _ r=>r.2.fr) fun v h1 r=>?_
 obtain⟨rfl,Q⟩:=r
 have Y:=Q.sy
 refine⟨rfl,b,0,rfl,A,l.length,c,Y.cellO 0 rfl 1 rfl,(eK .u8).l (bI l),(Y.ownS 1 rfl),by simp,by omega,by unfold maxLen;omega,?_⟩
 intro sA sC h2 ow f g _
 have e:Lib.strCells s=(eK .u8).l (bI s.data.toList):=(fC s).symm
 rw[e]at ow
 have Y1:=Y.appS 1 rfl (bI s.data.toList) ow f g rfl (by rw[fQ];rfl)
 refine⟨b,0,rfl,⟨_,Y1.cellO 0 rfl 1 rfl⟩,Y1.freeO 0 rfl 1,rfl,sA,sC,?_,fun x hx=>by rw[zU]at hx;cases hx⟩
 have Y2:=Y1.stO 0 rfl 1 (.slice sA (l.length+s.size) sC)
 have el:(l++s.data.toList).length=l.length+s.size:=List.length_append
 unfold wX
 rw[el,kj]
 exact Y2
theorem Cq {x:UInt8} (H:Hp h (wX b u A c d l)) (hs:l.length<=100000000):ae Tryz.prog 88 #[.pointer (some ⟨b,0,none⟩),.int .u8 ((x.toNat:Nat):Int)] h fun v h'=>v= .nilIface/\
  ∃A' c',Sq h (wX b u A c d l) h' (wX b true A' c' d (l++[x])):=by
 apply yu
 unfold S88
 refine ak (aA (wX b u A c d l)) (uQ H) (by simp) (fun _ _ r=>r.2.fr) fun v h1 r=>?_
 obtain⟨rfl,Q⟩:=r
 have Y:=Q.sy
 refine⟨rfl,b,0,rfl,A,l.length,c,Y.cellO 0 rfl 1 rfl,?_⟩
 intro h2
 have Y1:Sy h _ h2 (wX b true A c d l):=Y.gr (Fr.push h1 _)
 have hbl:b<h1.size:=zS Y 0 rfl b (by simp[Ck.ob])
 have hbA:∀y∈ag A,y<h1.size:=zS Y 1 rfl
 refine⟨(eK .u8).l (bI l),Y1.ownS 1 rfl,fun y hy=>?_,by omega,by unfold maxLen;omega,?_⟩
 ·grind
 intro sA sC h3 ow f g _
 have Y2:=Y1.appS 1 rfl (bI [x]) ow f g rfl rfl
 refine⟨b,0,rfl,by omega,⟨_,Y2.cellO 0 rfl 1 rfl⟩,Y2.freeO 0 rfl 1,rfl,sA,sC,?_,fun x hx=>by rw[zU]at hx;cases hx⟩
 have Y3:=Y2.stO 0 rfl 1 (.slice sA (l.length+1) sC)
 grind [wX,kj]
theorem Cr (H:Hp h (wX b u A c d l)):ae Tryz.prog 43 #[.pointer (some ⟨b,0,none⟩)] h fun v h'=>v= .int .i64 (l.length:Int)/\h'=h:=by
 apply yq
 unfold S43
 exact⟨b,0,rfl,A,l.length,c,(Sy.start H).cellO 0 rfl 1 rfl,rfl,rfl⟩
theorem Cs (H:Hp h (wX b u A c d l)) (h0:l≠[]):ae Tryz.prog 44 #[.pointer (some ⟨b,0,none⟩)] h fun v h'=>v= .string (G.mkB l)/\Fr (aA (wX b u A c d l)) h h':=by
 intro w hw
 subst hw
 have hb:w.heap[b]? =some (.cells #[pU u b,.slice A l.length c,.int .i64 (d:Int)] 58 (0,0)):=H.ok 0 _ rfl
 obtain⟨⟨o1,o2⟩,_⟩:aC w.heap 5 1 A l.length c ((eK .u8).l (bI l))/\_:=H.ok 1 _ rfl
 have hl0:l.length≠0:=by simpa using h0
 rcases o2 with⟨_,q,_⟩ | ⟨g,cur,rfl,q1,q2,q3,q4,q5⟩
 ·omega
 refine(AB w h0 hb q1 q2 q3 q4 q5).mono fun e w' ⟨r1,r2,r3⟩=>⟨_,r1,r2,rfl,r3.mono fun x hx=>?_⟩
 grind [aA,wX,Ck.sl,ag]
end
def bZ (ws:List ByteArray):List UInt8:=ws.flatMap (·.data.toList)
theorem cK (x:ByteArray) (r:List ByteArray):(bZ (x::r)).length=x.size+(bZ r).length:=by
 simp only[bZ,List.flatMap_cons,List.length_append];rfl
theorem cM :(bZ []).length=0:=rfl
def lnX (d:Nat) (ws:List ByteArray):List UInt8:=G.ind (2*d)++(bZ ws++[10])
theorem cp (d:Nat) (ws:List ByteArray):(lnX d ws).length=2*d+(bZ ws).length+1:=by simp[lnX,G.ind];omega
def iw (d:Nat):List ByteArray->List UInt8
 | k::v::r=>lnX d [⟨#[60,100,97,116,97,32,107,101,121,61,34]⟩,k,⟨#[34,62]⟩,v,⟨#[60,47,100,97,116,97,62]⟩]++iw d r
 | _=>[]
theorem tC (d:Nat) {k:Nat} {ds:List ByteArray} (h:2*k+1<ds.length):iw d (ds.drop (2*k))=lnX d [⟨#[60,100,97,116,97,32,107,101,121,61,34]⟩,ds[2*k],⟨#[34,62]⟩,ds[2*k+1],⟨#[60,47,100,97,116,97,62]⟩]++iw d (ds.drop (2*(k+1))):=by
 rw[List.drop_eq_getElem_cons (by omega),List.drop_eq_getElem_cons (by omega)]
 rfl
def elX (d:Nat) (front name:ByteArray) (ds:List ByteArray):List UInt8:=
 if ds=[]then lnX d [front,⟨#[47,62]⟩]else lnX d [front,⟨#[62]⟩]++(iw (d+1) ds++lnX d [⟨#[60,47]⟩,name,⟨#[62]⟩])
section
variable {b c d d':Nat} {u:Bool} {A:Option Addr} {l l':List UInt8} {h0 h:ab} {C B:List Ck} {H:List Nat} {K:Value->ab->Prop}
theorem iW :(Q:Sq h0 C h (wX b u A c d l++B))->Hp h (wX b u A c d l):=fun Q=>(Q.pick [0,1] (by simp[ii,wX];decide)).hp
theorem CF {p:Nat} {ws:List ByteArray} (Hm:Hp h (wX b u A c d l++[Ck.ob p 9 (wds ws)])) (hd:d<=100) (hl:l.length+(bZ ws).length<=45000000) (hw:ws.length<=100):
  ae Tryz.prog 40 #[.pointer (some ⟨b,0,none⟩),.slice (some ⟨p,0,none⟩) ws.length ws.length] h fun v h'=>v= .tuple #[]/\
   ∃A' c',Sq h (wX b u A c d l++[Ck.ob p 9 (wds ws)]) h' (wX b true A' c' d (l++lnX d ws)++[Ck.ob p 9 (wds ws)]):=by
 apply yL
 unfold S40
 intro K
 have Q:=Sq.start Hm
 refine⟨b,0,rfl,b,0,rfl,(d:Int),Q.sy.cellO 0 rfl 2 rfl,?_⟩
 refine ak (R:=fun v h'=>v= .string (G.mkB (G.ind (2*d)))/\Fr [] h h') [] ?_ (by simp) (fun _ _ r=>r.2) ?_
 ·refine jx (fun w hw=>Go.Proofs.Tryz.strings_Repeat (⟨#[32,32]⟩:ByteArray) d w (by omega) (by show 2*d<=_;omega)) fun h' f=>⟨?_,f⟩
  show Value.string ⟨(Lib.repeatL [32,32] d).toArray⟩=_
  rw[EV];rfl
 rintro v h1 ⟨rfl,f1⟩
 refine⟨_,rfl,f1,?_⟩
 have Q1:=Q.gr f1
 refine ak (aA (wX b u A c d l)) (zV (u:=u) (A:=A) (c:=c) (d:=d) (l:=l) (Q1.pick [0,1] rfl).hp (by show l.length+(List.replicate (2*d) (32:UInt8)).toArray.size<=_;simp;omega)) (by simp) (fun _ _ r=>r.2.choose_spec.choose_spec.fr) ?_
 rintro v h2 ⟨rfl,A2,c2,q2⟩
 have Q2:Sq h (wX b u A c d l++[Ck.ob p 9 (wds ws)]) h2 (wX b true A2 c2 d (l++G.ind (2*d))++[Ck.ob p 9 (wds ws)]):=Sq.call Q1 q2
 refine⟨_,.inl ⟨rfl,?_⟩⟩
 show K h2
 dsimp-zeta only[K]
 have ct:∀k,k<=ws.length->(bZ (ws.take k)).length<=(bZ ws).length:=by
  intro k _
  have:bZ ws=bZ (ws.take k)++bZ (ws.drop k):=by rw[bZ,bZ,bZ,<-List.flatMap_append,List.take_append_drop]
  rw[this,List.length_append];omega
 refine⟨fun lz h'=>∃(k:Nat) (A':Option Addr) (c':Nat),lz=[.int .i64 (k:Int)]/\k<=ws.length/\Sq h (wX b u A c d l++[Ck.ob p 9 (wds ws)]) h' (wX b true A' c' d (l++G.ind (2*d)++bZ (ws.take k))++[Ck.ob p 9 (wds ws)]),mI ws.length,⟨0,A2,c2,rfl,Nat.zero_le _,by simpa[bZ]using Q2⟩,?_⟩
 rintro x h4 ⟨k,A4,c4,e,hk,Q4⟩
 cases e
 have il:(G.ind (2*d)).length=2*d:=by simp[G.ind]
 have e4:(l++G.ind (2*d)++bZ (ws.take k)).length<=l.length+2*d+(bZ ws).length:=by
  rw[List.length_append,List.length_append,il]
  have:=ct k hk;omega
 refine af (fun q=>?_) fun q=>?_
 ·have hlt:k<ws.length:=by omega
  intro K2
  have cw:ac h4 p (0+k*1)=some (.string ws[k]):=by
   rw[Nat.zero_add,Nat.mul_one]
   exact Q4.sy.cellO 2 rfl k (by simp[wds,hlt])
  refine⟨p,0,rfl,by omega,by omega,ws[k],by rw[Int.toNat_natCast];exact cw,b,0,rfl,?_⟩
  have ws1:ws[k].size<=(bZ ws).length:=by
   have ew:ws=ws.take k++ws[k]::ws.drop (k+1):=by rw[<-List.drop_eq_getElem_cons hlt,List.take_append_drop]
   have:bZ ws=bZ (ws.take k)++(ws[k].data.toList++bZ (ws.drop (k+1))):=(congrArg bZ ew).trans (by unfold bZ;rw[List.flatMap_append,List.flatMap_cons])
   rw[this,List.length_append,List.length_append]
   have:ws[k].data.toList.length=ws[k].size:=rfl
   omega
  refine ak (aA (wX b true A4 c4 d (l++G.ind (2*d)++bZ (ws.take k)))) (zV (Q4.pick [0,1] rfl).hp (by omega)) (by simp) (fun _ _ r=>r.2.choose_spec.choose_spec.fr) ?_
  rintro v h5 ⟨rfl,A5,c5,q5⟩
  refine⟨_,.inl ⟨rfl,?_⟩⟩
  show K2 h5
  dsimp-zeta only[K2]
  rw[wrN (by omega)]
  have Q5:Sq h (wX b u A c d l++[Ck.ob p 9 (wds ws)]) h5 (wX b true A5 c5 d (l++G.ind (2*d)++bZ (ws.take k)++ws[k].data.toList)++[Ck.ob p 9 (wds ws)]):=Sq.call Q4 q5
  refine⟨⟨k+1,A5,c5,rfl,hlt,?_⟩,by simp only[mI];omega⟩
  have:bZ (ws.take (k+1))=bZ (ws.take k)++ws[k].data.toList:=by
   rw[List.take_add_one,List.getElem?_eq_getElem hlt];unfold bZ;rw[List.flatMap_append];simp only[Option.toList_some,List.flatMap_cons,List.flatMap_nil,List.append_nil]
  rw[this,<-List.append_assoc]
  exact Q5
 ·have hke:k=ws.length:=by omega
  subst hke
  rw[List.take_length]at Q4
  refine⟨b,0,rfl,?_⟩
  refine ak (aA (wX b true A4 c4 d (l++G.ind (2*d)++bZ ws))) (Cq (x:=10) (u:=true) (A:=A4) (c:=c4) (d:=d) (Q4.pick [0,1] rfl).hp (by rw[List.length_append,List.length_append,il];omega)) (by simp) (fun _ _ r=>r.2.choose_spec.choose_spec.fr) ?_
  rintro v h5 ⟨rfl,A5,c5,q5⟩
  refine .inl ⟨rfl,rfl,A5,c5,?_⟩
  have e:l++lnX d ws=l++G.ind (2*d)++bZ ws++[10]:=by simp[lnX]
  rw[e]
  exact Sq.call Q4 q5
theorem nl {ws:List ByteArray} (Q:Sq h0 C h (wX b u A c d l++B)) (hd:Hd H B) (hd':d<=100) (hl:l.length+(bZ ws).length<=45000000) (hw:ws.length<=100)
  (R:∀A' c' h2,Sq h0 C h2 (wX b true A' c' d (l++lnX d ws)++B)->K (.tuple #[]) h2):
  ai Tryz.prog 40 #[.pointer (some ⟨b,0,none⟩),.slice (some ⟨h.size,0,none⟩) ws.length ws.length] (h.push (.cells (wds ws).toArray 9)) H K:=by
 have ap:=hd.apart Q
 have Q1:Sq h0 C (h.push (.cells (wds ws).toArray 9)) (wX b u A c d l++[Ck.ob h.size 9 (wds ws)]++B):=Sq.ins Q 9 (wds ws)
 have Hw:Hp (h.push (.cells (wds ws).toArray 9)) (wX b u A c d l++[Ck.ob h.size 9 (wds ws)]):=(Sq.pick Q1 [0,1,2] (by simp[ii,wX];decide)).hp
 refine ak (aA (wX b u A c d l++[Ck.ob h.size 9 (wds ws)])) (CF (ws:=ws) Hw hd' hl hw) ?_ (fun _ _ r=>r.2.choose_spec.choose_spec.fr) ?_
 ·intro x hx w
  obtain⟨h1,h2⟩:=ap x hx
  simp only[aA,List.flatMap_append,List.mem_append]at w h2
  rcases w with w | w
  ·exact h2 w
  ·simp[Ck.ob]at w;omega
 rintro v2 h2 ⟨rfl,A2,c2,q2⟩
 have Q2:=Sq.call Q1 q2
 exact R A2 c2 h2 (Sq.del Q2)
theorem pQ {f:FuncId} {args:Array Value} (cH:ae Tryz.prog f args h fun v h'=>v= .tuple #[]/\∃A' c',Sq h (wX b u A c d l) h' (wX b true A' c' d' l')) (Q:Sq h0 C h (wX b u A c d l++B)) (hd:Hd H B)
  (R:∀A' c' h2,Sq h0 C h2 (wX b true A' c' d' l'++B)->K (.tuple #[]) h2):ai Tryz.prog f args h H K:=by
 refine ak (aA (wX b u A c d l)) cH (fun x hx=>(hd.apart Q x hx).2) (fun _ _ r=>r.2.choose_spec.choose_spec.fr) ?_
 rintro v2 h2 ⟨rfl,A2,c2,q2⟩
 exact R A2 c2 h2 (Sq.call Q q2)
def hY (id of name kind:ByteArray):List UInt8:=
 lnX 1 [⟨#[60,107,101,121,32,105,100,61,34]⟩,id,⟨#[34,32,102,111,114,61,34]⟩,of,⟨#[34,32,97,116,116,114,46,110,97,109,101,61,34]⟩,name,⟨#[34,32,97,116,116,114,46,116,121,112,101,61,34]⟩,kind,⟨#[34,47,62]⟩]
theorem sw {id of name kind:ByteArray} (Hm:Hp h (wX b u A c 1 l)) (hl:l.length<=40000000) (hi:id.size<=100/\of.size<=100/\name.size<=100/\kind.size<=100):
  ae Tryz.prog 89 #[.pointer (some ⟨b,0,none⟩),.string id,.string of,.string name,.string kind] h fun v h'=>v= .tuple #[]/\∃A' c',Sq h (wX b u A c 1 l) h' (wX b true A' c' 1 (l++hY id of name kind)):=by
 apply yM
 unfold S89
 have Q:Sq h (wX b u A c 1 l) h (wX b u A c 1 l++[]):=by rw[List.append_nil];exact Sq.start Hm
 refine nl (H:=[]) (d:=1) (ws:=[⟨#[60,107,101,121,32,105,100,61,34]⟩,id,⟨#[34,32,102,111,114,61,34]⟩,of,⟨#[34,32,97,116,116,114,46,110,97,109,101,61,34]⟩,name,⟨#[34,32,97,116,116,114,46,116,121,112,101,61,34]⟩,kind,⟨#[34,47,62]⟩]) Q (fun x hx=>by simp at hx) (by omega) ?_ (by simp) fun A2 c2 h2 Q2=>⟨rfl,rfl,A2,c2,by rw[List.append_nil]at Q2;exact Q2⟩
 simp only[cK,cM]
 have e1:(⟨#[60,107,101,121,32,105,100,61,34]⟩:ByteArray).size=9:=rfl
 have e2:(⟨#[34,32,102,111,114,61,34]⟩:ByteArray).size=7:=rfl
 have e3:(⟨#[34,32,97,116,116,114,46,110,97,109,101,61,34]⟩:ByteArray).size=13:=rfl
 have e4:(⟨#[34,32,97,116,116,114,46,116,121,112,101,61,34]⟩:ByteArray).size=13:=rfl
 have e5:(⟨#[34,47,62]⟩:ByteArray).size=3:=rfl
 omega
theorem CG {front name:ByteArray} {ds:List ByteArray} {dA:Option Addr} {dC:Nat} (Hm:Hp h (wX b u A c d l++[Ck.sl eS 9 dA ds.length dC ds])) (hd:d<=50) (hl:l.length<=30000000) (hf:front.size<=1000/\name.size<=1000) (hds:∃m,ds.length=2*m/\m<=10) (hdl:∀x∈ds,x.size<=100000):
  ae Tryz.prog 91 #[.pointer (some ⟨b,0,none⟩),.string front,.string name,.slice dA ds.length dC] h fun v h'=>v= .tuple #[]/\
   (∃A' c',Sq h (wX b u A c d l++[Ck.sl eS 9 dA ds.length dC ds]) h' (wX b true A' c' d (l++elX d front name ds)++[Ck.sl eS 9 dA ds.length dC ds])):=by
 apply yO
 unfold S91
 obtain⟨m,hm,hm10⟩:=hds
 have hd0:Hd [] [Ck.sl eS 9 dA ds.length dC ds]:=fun x hx=>by simp at hx
 have e1:(⟨#[47,62]⟩:ByteArray).size=2:=rfl
 have e2:(⟨#[62]⟩:ByteArray).size=1:=rfl
 have e3:(⟨#[60,47]⟩:ByteArray).size=2:=rfl
 have e4:(⟨#[60,100,97,116,97,32,107,101,121,61,34]⟩:ByteArray).size=11:=rfl
 have e5:(⟨#[34,62]⟩:ByteArray).size=2:=rfl
 have e6:(⟨#[60,47,100,97,116,97,62]⟩:ByteArray).size=7:=rfl
 have Q:=Sq.start Hm
 refine bu (fun q=>?_) fun q=>?_
 ·have h0:ds=[]:=List.eq_nil_of_length_eq_zero (by omega)
  have ee:elX d front name ds=lnX d [front,⟨#[47,62]⟩]:=by unfold elX;rw[if_pos h0]
  rw[ee]
  refine nl (ws:=[front,⟨#[47,62]⟩]) Q hd0 (by omega) ?_ (by simp) fun A2 c2 h2 Q2=>⟨rfl,rfl,A2,c2,Q2⟩
  simp only[cK,cM]
  omega
 ·have h0:ds≠[]:=fun z=>q (by rw[z];rfl)
  have ee:elX d front name ds=lnX d [front,⟨#[62]⟩]++(iw (d+1) ds++lnX d [⟨#[60,47]⟩,name,⟨#[62]⟩]):=by unfold elX;rw[if_neg h0]
  rw[ee]
  refine nl (ws:=[front,⟨#[62]⟩]) Q hd0 (by omega) ?_ (by simp) fun A2 c2 h2 Q2=>⟨rfl,?_⟩
  ·simp only[cK,cM]
   omega
  have l2:(l++lnX d [front,⟨#[62]⟩]).length<=l.length+1200:=by
   rw[List.length_append,cp]
   simp only[cK,cM]
   omega
  generalize hl2:l++lnX d [front,⟨#[62]⟩]=l2' at Q2 l2
  refine⟨b,0,rfl,(d:Int),Q2.sy.cellO 0 rfl 2 rfl,b,0,rfl,⟨_,Q2.sy.cellO 0 rfl 2 rfl⟩,Q2.sy.freeO 0 rfl 2,?_⟩
  rw[wrN (by omega)]
  intro h5
  have Q5:Sq h (wX b u A c d l++[Ck.sl eS 9 dA ds.length dC ds]) h5 (wX b true A2 c2 (d+1) l2'++[Ck.sl eS 9 dA ds.length dC ds]):=⟨Q2.sy.stO 0 rfl 2 _,Q2.ri⟩
  clear_value h5
  refine⟨fun lz h'=>∃(k:Nat) (A':Option Addr) (c':Nat) (l':List UInt8),lz=[.int .i64 ((2*k:Nat):Int)]/\k<=m/\l'.length<=l2'.length+k*300000/\l2'++iw (d+1) ds=l'++iw (d+1) (ds.drop (2*k))/\Sq h (wX b u A c d l++[Ck.sl eS 9 dA ds.length dC ds]) h' (wX b true A' c' (d+1) l'++[Ck.sl eS 9 dA ds.length dC ds]),mI ds.length,⟨0,A2,c2,l2',rfl,Nat.zero_le _,by omega,by rw[Nat.mul_zero,List.drop_zero],Q5⟩,?_⟩
  rintro i h6 ⟨k,A6,c6,l6,ei,hk,hl6,el6,Q6⟩
  cases ei
  refine af (fun q=>?_) fun q=>?_
  ·have hk2:2*k+1<ds.length:=by omega
   obtain⟨g,hg,-,-⟩:=Q6.sy.atS 2 rfl (i:=(0:Int)) (by omega) (by omega)
   have ca:∀j (hj:j<ds.length),ac h6 g (0+j*1)=some (.string ds[j]):=fun j hj=>Q6.sy.cellS 2 rfl hg (i:=j) (t:=0) (List.getElem?_eq_getElem hj) rfl
   rw[show i64.wrap (((2*k:Nat):Int)+(1:Int))=((2*k+1:Nat):Int)from wrN (by omega)]
   refine⟨g,0,hg,by omega,by omega,ds[2*k],by rw[Int.toNat_natCast];exact ca _ (by omega),g,0,hg,by omega,by omega,ds[2*k+1],by rw[Int.toNat_natCast];exact ca _ hk2,Fr.push _ _,?_⟩
   have s1:=hdl _ (List.getElem_mem (l:=ds) (show 2*k<ds.length by omega))
   have s2:=hdl _ (List.getElem_mem hk2)
   have cl:(bZ [⟨#[60,100,97,116,97,32,107,101,121,61,34]⟩,ds[2*k],⟨#[34,62]⟩,ds[2*k+1],⟨#[60,47,100,97,116,97,62]⟩]).length<=200100:=by
    simp only[cK,cM]
    omega
   refine nl (ws:=[⟨#[60,100,97,116,97,32,107,101,121,61,34]⟩,ds[2*k],⟨#[34,62]⟩,ds[2*k+1],⟨#[60,47,100,97,116,97,62]⟩]) Q6 hd0 (by omega) (by omega) (by show 5<=100;omega) fun A7 c7 h7 Q7=>⟨rfl,?_⟩
   have ew:i64.wrap (((2*k:Nat):Int)+(2:Int))=((2*(k+1):Nat):Int):=by rw[wr (by omega) (by omega)];omega
   rw[ew]
   refine⟨⟨k+1,A7,c7,_,rfl,by omega,?_,?_,Q7⟩,by simp only[mI];omega⟩
   ·rw[List.length_append,cp];omega
   ·rw[el6,tC _ hk2,List.append_assoc]
  ·have hk2:2*k=ds.length:=by omega
   rw[hk2,List.drop_length]at el6
   refine⟨b,0,rfl,((d+1:Nat):Int),Q6.sy.cellO 0 rfl 2 rfl,b,0,rfl,⟨_,Q6.sy.cellO 0 rfl 2 rfl⟩,Q6.sy.freeO 0 rfl 2,?_⟩
   rw[show i64.wrap (((d+1:Nat):Int)-1)=(d:Int) by rw[wr (by omega) (by omega)];omega]
   intro h9
   have Q9:Sq h (wX b u A c d l++[Ck.sl eS 9 dA ds.length dC ds]) h9 (wX b true A6 c6 d l6++[Ck.sl eS 9 dA ds.length dC ds]):=⟨Q6.sy.stO 0 rfl 2 _,Q6.ri⟩
   clear_value h9
   refine nl (ws:=[⟨#[60,47]⟩,name,⟨#[62]⟩]) Q9 hd0 (by omega) ?_ (by simp) fun A10 c10 h10 Q10=>⟨rfl,rfl,A10,c10,?_⟩
   ·simp only[cK,cM]
    omega
   have ef:l++(lnX d [front,⟨#[62]⟩]++(iw (d+1) ds++lnX d [⟨#[60,47]⟩,name,⟨#[62]⟩]))=l6++lnX d [⟨#[60,47]⟩,name,⟨#[62]⟩]:=by
    rw[<-List.append_assoc,hl2,<-List.append_assoc,el6]
    simp[iw]
   rw[ef]
   exact Q10
end
def uX (gl:GL) (esc:ByteArray->List UInt8) (x:ByteArray):Prop:=(∀h:ab,Gl gl h->ae Tryz.prog 90 #[.string x] h fun v h'=>v= .string (G.mkB (esc x))/\Fr [] h h')/\(esc x).length<=2000
def kP (nL nS nW:Nat):List UInt8:=
 (if 0<nL then hY ⟨#[100,48]⟩ ⟨#[110,111,100,101]⟩ ⟨#[108,97,98,101,108]⟩ ⟨#[115,116,114,105,110,103]⟩else [])++
 ((if 0<nS then hY ⟨#[100,49]⟩ ⟨#[110,111,100,101]⟩ ⟨#[120]⟩ ⟨#[100,111,117,98,108,101]⟩++hY ⟨#[100,50]⟩ ⟨#[110,111,100,101]⟩ ⟨#[121]⟩ ⟨#[100,111,117,98,108,101]⟩else [])++
 if 0<nW then hY ⟨#[100,51]⟩ ⟨#[101,100,103,101]⟩ ⟨#[119,101,105,103,104,116]⟩ ⟨#[100,111,117,98,108,101]⟩else [])
theorem iu (a b c d:ByteArray):(hY a b c d).length=48+a.size+b.size+c.size+d.size:=by
 unfold hY
 rw[cp]
 simp only[cK,cM]
 have e1:(⟨#[60,107,101,121,32,105,100,61,34]⟩:ByteArray).size=9:=rfl
 have e2:(⟨#[34,32,102,111,114,61,34]⟩:ByteArray).size=7:=rfl
 have e3:(⟨#[34,32,97,116,116,114,46,110,97,109,101,61,34]⟩:ByteArray).size=13:=rfl
 have e4:(⟨#[34,32,97,116,116,114,46,116,121,112,101,61,34]⟩:ByteArray).size=13:=rfl
 have e5:(⟨#[34,47,62]⟩:ByteArray).size=3:=rfl
 omega
def bU (tx:Nat->List UInt8) (esc:ByteArray->List UInt8) (x:Option ByteArray) (p:Option (Nat × Nat)):List ByteArray:=
 (match x with | some x=>[⟨#[100,48]⟩,G.mkB (esc x)] | none=>[])++(match p with | some p=>[⟨#[100,49]⟩,G.mkB (tx p.1),⟨#[100,50]⟩,G.mkB (tx p.2)] | none=>[])
def gU (tx:Nat->List UInt8) (esc:ByteArray->List UInt8) (x:Option ByteArray) (p:Option (Nat × Nat)) (v:Nat):List UInt8:=
 elX 2 (((⟨#[60,110,111,100,101,32,105,100,61,34,110]⟩:ByteArray)++G.mkB (G.dec v))++(⟨#[34]⟩:ByteArray)) ⟨#[110,111,100,101]⟩ (bU tx esc x p)
def bX (tx:Nat->List UInt8) (esc:ByteArray->List UInt8) (ls:List ByteArray) (ss:List (Nat × Nat)):Nat->Nat->List UInt8
 | 0,_=>[]
 | n+1,k=>gU tx esc ls[k]? ss[k]? k++bX tx esc ls ss n (k+1)
def gW (tx:Nat->List UInt8) (w:Option Nat):List ByteArray:=match w with | some x=>[⟨#[100,51]⟩,G.mkB (tx x)] | none=>[]
def gh (tx:Nat->List UInt8) (w:Option Nat) (e:Nat × Nat):List UInt8:=
 elX 2 (((((⟨#[60,101,100,103,101,32,115,111,117,114,99,101,61,34,110]⟩:ByteArray)++G.mkB (G.dec e.1))++(⟨#[34,32,116,97,114,103,101,116,61,34,110]⟩:ByteArray))++G.mkB (G.dec e.2))++(⟨#[34]⟩:ByteArray)) ⟨#[101,100,103,101]⟩ (gW tx w)
def ci (tx:Nat->List UInt8):List (Nat × Nat)->List Nat->List UInt8
 | [],_=>[]
 | e::es,ws=>gh tx ws.head? e++ci tx es ws.tail
theorem lC (d S:Nat):∀ds:List ByteArray,(∀x∈ds,x.size<=S)->(iw d ds).length<=ds.length*(2*d+2*S+30)
 | [],_=>by simp[iw]
 | [x],_=>by simp[iw]
 | k::v::r,h=>by
  have ih:=lC d S r fun x hx=>h x (by simp[hx])
  have h1:=h k (by simp)
  have h2:=h v (by simp)
  rw[iw,List.length_append,cp]
  simp only[cK,cM,List.length_cons]
  have e4:(⟨#[60,100,97,116,97,32,107,101,121,61,34]⟩:ByteArray).size=11:=rfl
  have e5:(⟨#[34,62]⟩:ByteArray).size=2:=rfl
  have e6:(⟨#[60,47,100,97,116,97,62]⟩:ByteArray).size=7:=rfl
  have:(r.length+1+1)*(2*d+2*S+30)=r.length*(2*d+2*S+30)+(2*d+2*S+30)+(2*d+2*S+30):=by rw[Nat.add_mul,Nat.add_mul,Nat.one_mul]
  omega
theorem sr {front name:ByteArray} {ds:List ByteArray} (hf:front.size<=100/\name.size<=100) (hd:ds.length<=6) (hs:∀x∈ds,x.size<=2000):(elX 2 front name ds).length<=25000:=by
 have e1:(⟨#[47,62]⟩:ByteArray).size=2:=rfl
 have e2:(⟨#[62]⟩:ByteArray).size=1:=rfl
 have e3:(⟨#[60,47]⟩:ByteArray).size=2:=rfl
 have dl:(iw (2+1) ds).length<=_:=lC 3 2000 ds hs
 unfold elX
 split
 ·rw[cp];simp only[cK,cM];omega
 ·rw[List.length_append,List.length_append,cp,cp]
  simp only[cK,cM]
  have:ds.length*(2*3+2*2000+30)<=6*(2*3+2*2000+30):=Nat.mul_le_mul_right _ hd
  omega
section
variable {gl:GL} {b c:Nat} {u:Bool} {A:Option Addr} {l:List UInt8} {h:ab} {tx:Nat->List UInt8} {esc:ByteArray->List UInt8} {aE aL aS aW:Option Addr} {nE cE nL cL nS cS nW cW n:Nat} {m:Int} {es:Es} {ls:List ByteArray} {ss:List (Nat × Nat)} {ws:List Nat} {dir:Bool}
theorem Cv (Hm:Hp h (wX b true A c 1 l)) (hl:l.length<=10000000):
  ae Tryz.prog 41 #[.pointer (some ⟨b,0,none⟩),.agg #[.int .i64 m,.slice aE nE cE,.bool dir,.slice aL nL cL,.slice aS nS cS,.slice aW nW cW]] h fun v h'=>v= .tuple #[]/\∃A' c',Sq h (wX b true A c 1 l) h' (wX b true A' c' 1 (l++kP nL nS nW)):=by
 apply yN
 unfold S41
 intro h1
 have Q1:Sq h (wX b true A c 1 l) h1 (wX b true A c 1 l++[Ck.junk h.size]):=⟨(Sy.start Hm).junk _,fun x hx=>by simp[rds,wX,Ck.ob,Ck.sl,Ck.junk]at hx⟩
 have hd:Hd [h.size] [Ck.junk h.size]:=by
  intro x hx
  simp only[List.mem_singleton]at hx
  subst hx
  exact⟨0,rfl⟩
 clear_value h1
 unfold kP
 obtain⟨k1,hk1⟩:∃k1,k1=(if 0<nL then hY ⟨#[100,48]⟩ ⟨#[110,111,100,101]⟩ ⟨#[108,97,98,101,108]⟩ ⟨#[115,116,114,105,110,103]⟩else []):=⟨_,rfl⟩
 obtain⟨k2,hk2⟩:∃k2,k2=(if 0<nS then hY ⟨#[100,49]⟩ ⟨#[110,111,100,101]⟩ ⟨#[120]⟩ ⟨#[100,111,117,98,108,101]⟩++hY ⟨#[100,50]⟩ ⟨#[110,111,100,101]⟩ ⟨#[121]⟩ ⟨#[100,111,117,98,108,101]⟩else []):=⟨_,rfl⟩
 obtain⟨k3,hk3⟩:∃k3,k3=(if 0<nW then hY ⟨#[100,51]⟩ ⟨#[101,100,103,101]⟩ ⟨#[119,101,105,103,104,116]⟩ ⟨#[100,111,117,98,108,101]⟩else []):=⟨_,rfl⟩
 rw[<-hk1,<-hk2,<-hk3]
 have b1:k1.length<=200:=by rw[hk1];split<;>simp[iu,ByteArray.size]
 have b2:k2.length<=400:=by rw[hk2];split<;>simp[iu,ByteArray.size]
 refine⟨fun _ h'=>∃A' c',Sq h (wX b true A c 1 l) h' (wX b true A' c' 1 (l++k1)++[Ck.junk h.size]),af (fun q=>?_) fun q=>⟨A,c,by rw[hk1,if_neg (by omega),List.append_nil];exact Q1⟩,?_⟩
 ·refine pQ (sw (iW Q1) (by omega) ⟨by decide,by decide,by decide,by decide⟩) Q1 hd fun A2 c2 h2 Q2=>⟨rfl,A2,c2,?_⟩
  rw[hk1,if_pos (by omega)];exact Q2
 rintro h3 ⟨A3,c3,Q3⟩
 have l3:(l++k1).length<=l.length+200:=by rw[List.length_append];omega
 refine⟨fun _ h'=>∃A' c',Sq h (wX b true A c 1 l) h' (wX b true A' c' 1 (l++k1++k2)++[Ck.junk h.size]),af (fun q=>?_) fun q=>⟨A3,c3,by rw[hk2,if_neg (by omega),List.append_nil];exact Q3⟩,?_⟩
 ·refine pQ (sw (iW Q3) (by omega) ⟨by decide,by decide,by decide,by decide⟩) Q3 hd fun A4 c4 h4 Q4=>⟨rfl,?_⟩
  refine pQ (sw (iW Q4) (by rw[List.length_append,iu];simp only[ByteArray.size];simp;omega) ⟨by decide,by decide,by decide,by decide⟩) Q4 hd fun A5 c5 h5 Q5=>⟨rfl,A5,c5,?_⟩
  rw[hk2,if_pos (by omega),<-List.append_assoc];exact Q5
 rintro h6 ⟨A6,c6,Q6⟩
 refine⟨fun _ h'=>∃A' c',Sq h (wX b true A c 1 l) h' (wX b true A' c' 1 (l++k1++k2++k3)++[Ck.junk h.size]),af (fun q=>?_) fun q=>⟨A6,c6,by rw[hk3,if_neg (by omega),List.append_nil];exact Q6⟩,?_⟩
 ·refine pQ (sw (iW Q6) (by rw[List.length_append];omega) ⟨by decide,by decide,by decide,by decide⟩) Q6 hd fun A7 c7 h7 Q7=>⟨rfl,A7,c7,?_⟩
  rw[hk3,if_pos (by omega)];exact Q7
 rintro h8 ⟨A8,c8,Q8⟩
 refine⟨rfl,A8,c8,?_⟩
 have e:l++(k1++(k2++k3))=l++k1++k2++k3:=by simp
 rw[e]
 exact Q8.pick [0,1] rfl
theorem uY {x:Option ByteArray} {p:Option (Nat × Nat)} (hx:∀y,x=some y->(esc y).length<=2000) (hp:∀q,p=some q->(tx q.1).length<=100/\(tx q.2).length<=100):(∃m,(bU tx esc x p).length=2*m/\m<=3)/\∀y∈bU tx esc x p,y.size<=2000:=by
 have z:∀a c:UInt8,(⟨#[a,c]⟩:ByteArray).size<=2000:=fun a c=>by show 2<=2000;omega
 cases x<;>cases p
 ·exact⟨⟨0,rfl,by omega⟩,fun y hy=>by simp[bU]at hy⟩
 ·have:=hp _ rfl
  refine⟨⟨2,rfl,by omega⟩,fun y hy=>?_⟩
  simp only[bU,List.nil_append,List.mem_cons,List.not_mem_nil,or_false]at hy
  rcases hy with rfl | rfl | rfl | rfl
  ·exact z _ _
  ·rw[aB];omega
  ·exact z _ _
  ·rw[aB];omega
 ·have:=hx _ rfl
  refine⟨⟨1,rfl,by omega⟩,fun y hy=>?_⟩
  simp only[bU,List.append_nil,List.mem_cons,List.not_mem_nil,or_false]at hy
  rcases hy with rfl | rfl
  ·exact z _ _
  ·rw[aB];omega
 ·have h1:=hp _ rfl
  have h2:=hx _ rfl
  refine⟨⟨3,rfl,by omega⟩,fun y hy=>?_⟩
  simp only[bU,List.cons_append,List.nil_append,List.mem_cons,List.not_mem_nil,or_false]at hy
  rcases hy with rfl | rfl | rfl | rfl | rfl | rfl
  ·exact z _ _
  ·rw[aB];omega
  ·exact z _ _
  ·rw[aB];omega
  ·exact z _ _
  ·rw[aB];omega
theorem Cw {h0 h:ab} {C:List Ck} {H:List Nat} {K:Value->ab->Prop} {B:List Ck} {front name:ByteArray} {ds:List ByteArray} {dA:Option Addr} {dC:Nat} (Q:Sq h0 C h ((wX b u A c 2 l++[Ck.sl eS 9 dA ds.length dC ds])++B)) (hd:Hd H B) (hl:l.length<=30000000) (hf:front.size<=1000/\name.size<=1000) (hds:∃m,ds.length=2*m/\m<=10) (hdl:∀x∈ds,x.size<=100000)
  (R:∀A' c' h2,Sq h0 C h2 (wX b true A' c' 2 (l++elX 2 front name ds)++B)->K (.tuple #[]) h2):
  ai Tryz.prog 91 #[.pointer (some ⟨b,0,none⟩),.string front,.string name,.slice dA ds.length dC] h H K:=by
 refine ak (aA (wX b u A c 2 l++[Ck.sl eS 9 dA ds.length dC ds])) (CG (Q.pick [0,1,2] (by simp[ii,wX];decide)).hp (by omega) hl hf hds hdl) (fun x hx=>(hd.apart Q x hx).2) (fun _ _ r=>r.2.choose_spec.choose_spec.fr) ?_
 rintro v2 h2 ⟨rfl,A2,c2,q2⟩
 exact R A2 c2 h2 (Sq.del (Sq.call Q q2))
theorem bsz (a b:ByteArray):(a++b).size=a.size+b.size:=ByteArray.size_append
end
theorem yb {front name:ByteArray} {ds:List ByteArray} (hf:front.size<=200/\name.size<=100) (hd:ds.length<=2) (hs:∀x∈ds,x.size<=100):(elX 2 front name ds).length<=1200:=by
 have e1:(⟨#[47,62]⟩:ByteArray).size=2:=rfl
 have e2:(⟨#[62]⟩:ByteArray).size=1:=rfl
 have e3:(⟨#[60,47]⟩:ByteArray).size=2:=rfl
 have dl:(iw (2+1) ds).length<=_:=lC 3 100 ds hs
 unfold elX
 split
 ·rw[cp];simp only[cK,cM];omega
 ·rw[List.length_append,List.length_append,cp,cp]
  simp only[cK,cM]
  have:ds.length*(2*3+2*100+30)<=2*(2*3+2*100+30):=Nat.mul_le_mul_right _ hd
  omega
def ndE (es:Es):List (Nat × Nat):=es.map fun e=>(e.1.toNat,e.2.toNat)
theorem kQ (tx:Nat->List UInt8) {es:List (Nat × Nat)} {ws:List Nat} {k:Nat} {e:Nat × Nat} (h:es[k]? =some e):ci tx (es.drop k) (ws.drop k)=gh tx ws[k]? e++ci tx (es.drop (k+1)) (ws.drop (k+1)):=by
 have hk:=(List.getElem?_eq_some_iff.1 h).1
 rw[List.drop_eq_getElem_cons hk,(List.getElem?_eq_some_iff.1 h).2,ci,List.head?_drop,List.tail_drop]
section
variable {gl:GL} {b c:Nat} {u:Bool} {A:Option Addr} {l:List UInt8} {h:ab} {tx:Nat->List UInt8} {esc:ByteArray->List UInt8} {aE aL aS aW:Option Addr} {nE cE nL cL nS cS nW cW n:Nat} {es:Es} {ls:List ByteArray} {ss:List (Nat × Nat)} {ws:List Nat} {dir:Bool}
set_option maxHeartbeats 2000000 in
theorem Cx (Hm:Hp h (wX b true A c 2 l++dV gl aE nE cE es aL nL cL ls aS nS cS ss aW nW cW ws)) (hn:n<=1024) (hE:es.length<=3072) (hends:∀e∈es,(0<=e.1/\e.1<=1024)/\0<=e.2/\e.2<=1024) (hL:ls=[]\/ls.length=n) (hS:ss=[]\/ss.length=n) (hW:ws=[]\/ws.length=es.length)
  (hesc:∀x∈ls,uX gl esc x) (ht:∀p∈ss,qS gl tx p.1/\qS gl tx p.2) (htw:∀x∈ws,qS gl tx x) (hl:l.length<=10000):
  ae Tryz.prog 42 #[.pointer (some ⟨b,0,none⟩),.agg #[.int .i64 (n:Int),.slice aE nE cE,.bool dir,.slice aL nL cL,.slice aS nS cS,.slice aW nW cW]] h fun w h'=>w= .tuple #[]/\
   (∃A' c',Sq h (wX b true A c 2 l++dV gl aE nE cE es aL nL cL ls aS nS cS ss aW nW cW ws) h' (wX b true A' c' 2 (l++(bX tx esc ls ss n 0++ci tx (ndE es) ws))++dV gl aE nE cE es aL nL cL ls aS nS cS ss aW nW cW ws))/\(l++(bX tx esc ls ss n 0++ci tx (ndE es) ws)).length<=30000000:=by
 apply yP
 unfold S42
 obtain⟨C,hC⟩:∃C,C=wX b true A c 2 l++dV gl aE nE cE es aL nL cL ls aS nS cS ss aW nW cW ws:=⟨_,rfl⟩
 rw[<-hC]
 intro h1
 have Q1:Sq h C h1 (wX b true A c 2 l++(dV gl aE nE cE es aL nL cL ls aS nS cS ss aW nW cW ws++[Ck.junk h.size])):=by
  rw[hC]
  exact⟨(Sy.start Hm).junk _,fun x hx=>.inl (by simpa[rds,Ck.junk]using hx)⟩
 clear_value h1
 have lE:=Q1.sy.lenV 3 rfl
 have lL:=Q1.sy.lenV 4 rfl
 have lS:=Q1.sy.lenV 5 rfl
 have lW:=Q1.sy.lenV 6 rfl
 have hd:∀{X:List Ck},Hd [h.size] (dV gl aE nE cE es aL nL cL ls aS nS cS ss aW nW cW ws++(Ck.junk h.size::X)):=by
  intro X x hx
  simp only[List.mem_singleton]at hx
  subst hx
  exact⟨5,rfl⟩
 refine⟨fun lz h'=>∃(k:Nat) (A':Option Addr) (c':Nat) (l':List UInt8),lz=[.int .i64 (k:Int)]/\k<=n/\Sq h C h' (wX b true A' c' 2 l'++(dV gl aE nE cE es aL nL cL ls aS nS cS ss aW nW cW ws++[Ck.junk h.size]))/\l'++bX tx esc ls ss (n-k) k=l++bX tx esc ls ss n 0/\l'.length<=10000+25000*k,
  mI n,⟨0,A,c,l,rfl,Nat.zero_le _,Q1,rfl,by omega⟩,?_⟩
 rintro x h2 ⟨k,A2,c2,l2,e,hk,Q2,el2,bl2⟩
 cases e
 refine af (fun q=>?_) fun q=>?_
 ·--a node
  have hkn:k<n:=by omega
  refine⟨fun lz h'=>∃dA dC,lz=[.slice dA (bU tx esc ls[k]? none).length dC]/\Sq h C h' (wX b true A2 c2 2 l2++(dV gl aE nE cE es aL nL cL ls aS nS cS ss aW nW cW ws++[Ck.junk h.size,Ck.sl eS 9 dA (bU tx esc ls[k]? none).length dC (bU tx esc ls[k]? none)])),af (fun q1=>?_) fun q1=>?_,?_⟩
  ·have hlen:k<ls.length:=by rcases hL with rfl | e<;>simp at* <;>omega
   have hx:ls[k]? =some ls[k]:=List.getElem?_eq_getElem hlen
   obtain⟨g,o,hg,-⟩:=Q2.sy.atV 4 rfl (i:=(k:Int)) (by omega) (by omega)
   obtain⟨ce,ce2⟩:=hesc _ (List.getElem_mem hlen)
   have cx:=Q2.sy.cellV 4 rfl hg (i:=k) (t:=0) hx rfl
   rw[hx]
   generalize ls[k]=y at*
   refine⟨g,o,hg,by omega,by omega,y,by rw[Int.toNat_natCast];exact cx,?_⟩
   refine ak [] (ce _ (Q2.sy.glo 2 rfl)) (by simp) (fun _ _ r=>r.2) ?_
   rintro v h3 ⟨rfl,f3⟩
   refine⟨_,rfl,?_⟩
   intro h4
   have Qa:=Q2.gr f3
   have Qb:Sq h C h4 (wX b true A2 c2 2 l2++(dV gl aE nE cE es aL nL cL ls aS nS cS ss aW nW cW ws++[Ck.junk h.size])++[Ck.junk h3.size]):=Qa.add1 (Qa.sy.junk _) rfl
   have Q4:=Qb.add1 (Qb.sy.nilS eS 9) rfl
   clear_value h4
   refine⟨_,Q4.sy.ownS 9 rfl,by simp[ag],by decide,by decide,fun sA sC h5 ow f gg _=>⟨sA,sC,rfl,?_⟩⟩
   exact(⟨Q4.sy.appS 9 rfl [(⟨#[100,48]⟩:ByteArray),G.mkB (esc y)] ow f gg rfl rfl,Q4.ri⟩:Sq h C h5 _).pick [0,1,2,3,4,5,6,7,9] rfl
  ·have hx:ls[k]? =none:=by rw[List.getElem?_eq_none];omega
   rw[hx]
   exact⟨none,0,rfl,Q2.add1 (Q2.sy.nilS eS 9) rfl⟩
  rintro dA dL dC h6 ⟨dA',dC',e,Q6⟩
  cases e
  have dl:(bU tx esc ls[k]? none).length<=2:=by cases ls[k]? <;>simp[bU]
  refine⟨fun lz h'=>∃dA dC,lz=[.slice dA (bU tx esc ls[k]? ss[k]?).length dC]/\Sq h C h' (wX b true A2 c2 2 l2++(dV gl aE nE cE es aL nL cL ls aS nS cS ss aW nW cW ws++[Ck.junk h.size,Ck.sl eS 9 dA (bU tx esc ls[k]? ss[k]?).length dC (bU tx esc ls[k]? ss[k]?)])),af (fun q1=>?_) fun q1=>?_,?_⟩
  ·have hlen:k<ss.length:=by rcases hS with rfl | e<;>simp at* <;>omega
   have hx:ss[k]? =some ss[k]:=List.getElem?_eq_getElem hlen
   obtain⟨g,o,hg,hgr,-⟩:=Q6.sy.atV 5 rfl (i:=(k:Int)) (by omega) (by omega)
   obtain⟨⟨t1,tl1⟩,t2,tl2⟩:=ht _ (List.getElem_mem hlen)
   have cx:=Q6.sy.cellV 5 rfl hg (i:=k) (t:=0) hx rfl
   have cy:=Q6.sy.cellV 5 rfl hg (i:=k) (t:=1) hx rfl
   rw[hx]
   have ed:bU tx esc ls[k]? (some ss[k])=bU tx esc ls[k]? none++[⟨#[100,49]⟩,G.mkB (tx ss[k].1),⟨#[100,50]⟩,G.mkB (tx ss[k].2)]:=by simp[bU]
   have edl:(bU tx esc ls[k]? (some ss[k])).length=(bU tx esc ls[k]? none).length+4:=by rw[ed,List.length_append];rfl
   rw[edl,ed]
   generalize ss[k]=y at*
   have gn:g∉ag dA:=fun w=>(Q6.sy.hp.ap 8 5 _ _ (by decide) rfl rfl g w).2 hgr
   refine⟨ag dA,?_,g,o,hg,by omega,by omega,gn,y.1,by rw[Int.toNat_natCast];exact cx,g,o,hg,by omega,by omega,gn,y.2,by rw[Int.toNat_natCast];exact cy,?_⟩
   ·intro z hz w
    simp only[List.mem_singleton]at hz
    subst hz
    exact Q6.sy.nJ 8 7 rfl rfl rfl w
   refine ak [] (t1 _ (Q6.sy.glo 2 rfl)) (by simp) (fun _ _ r=>r.2) ?_
   rintro v h7 ⟨rfl,f7⟩
   have Q7:=Q6.gr f7
   refine⟨_,rfl,f7.nil,?_⟩
   refine ak [] (t2 _ (Q7.sy.glo 2 rfl)) (by simp) (fun _ _ r=>r.2) ?_
   rintro v h8 ⟨rfl,f8⟩
   have Q8:=Q7.gr f8
   refine⟨_,rfl,(f7.trans f8).nil,?_⟩
   intro h9
   have Q9:=Q8.add1 (Q8.sy.junk (.cells #[.string (⟨#[100,49]⟩:ByteArray),.string (G.mkB (tx y.1)),.string (⟨#[100,50]⟩:ByteArray),.string (G.mkB (tx y.2))] 9)) rfl
   have f9:Fr (ag dA) h6 h9:=((f7.trans f8).trans (Fr.push _ _)).nil
   refine⟨f9,_,Q9.sy.ownS 8 rfl,fun z hz w=>?_,by omega,by simp only[maxLen];omega,fun sA sC h10 ow f gg _=>⟨f9.trans f,sA,sC,rfl,?_⟩⟩
   ·simp only[List.mem_cons,List.not_mem_nil,or_false]at hz
    rcases hz with rfl | rfl
    ·exact Q9.sy.nJ 8 9 rfl rfl rfl w
    ·exact Q9.sy.nJ 8 7 rfl rfl rfl w
   exact(⟨Q9.sy.appS 8 rfl [(⟨#[100,49]⟩:ByteArray),G.mkB (tx y.1),⟨#[100,50]⟩,G.mkB (tx y.2)] ow f gg rfl rfl,Q9.ri⟩:Sq h C h10 _).pick [0,1,2,3,4,5,6,7,8] rfl
  ·have hx:ss[k]? =none:=by rw[List.getElem?_eq_none];omega
   rw[hx]
   exact⟨dA,dC,rfl,Q6⟩
  rintro eA eL eC h11 ⟨eA',eC',e,Q11⟩
  cases e
  refine ak [] (Ay (Q11.sy.glo 2 rfl) (by omega)) (by simp) (fun _ _ r=>r.2) ?_
  rintro v h12 ⟨rfl,f12⟩
  have dk:=fZ (n:=k) (by omega)
  have e11:(⟨#[60,110,111,100,101,32,105,100,61,34,110]⟩:ByteArray).size=11:=rfl
  have e1:(⟨#[34]⟩:ByteArray).size=1:=rfl
  have e4:(⟨#[110,111,100,101]⟩:ByteArray).size=4:=rfl
  refine⟨_,rfl,by rw[aB];omega,by rw[bsz,aB];omega,?_⟩
  obtain⟨ds1,ds2⟩:=uY (tx:=tx) (esc:=esc) (x:=ls[k]?) (p:=ss[k]?) (fun y hy=>(hesc y (List.mem_of_getElem? hy)).2) fun y hy=>⟨(ht y (List.mem_of_getElem? hy)).1.2,(ht y (List.mem_of_getElem? hy)).2.2⟩
  have Q12:Sq h C h12 ((wX b true A2 c2 2 l2++[Ck.sl eS 9 eA (bU tx esc ls[k]? ss[k]?).length eC (bU tx esc ls[k]? ss[k]?)])++(dV gl aE nE cE es aL nL cL ls aS nS cS ss aW nW cW ws++[Ck.junk h.size])):=(Q11.gr f12).pick [0,1,8,2,3,4,5,6,7] rfl
  refine Cw Q12 hd (by omega) ⟨by rw[bsz,bsz,aB];omega,by omega⟩ (by obtain⟨m,a1,a2⟩:=ds1;exact⟨m,a1,by omega⟩) (fun x hx=>by have:=ds2 x hx;omega) fun A13 c13 h13 Q13=>⟨rfl,?_⟩
  rw[wrN (by omega)]
  refine⟨⟨k+1,A13,c13,_,rfl,hkn,Q13,?_,?_⟩,by simp only[mI];omega⟩
  ·rw[<-el2,show n-k=(n-(k+1))+1 by omega,bX,List.append_assoc];rfl
  ·have:=sr (front:=((⟨#[60,110,111,100,101,32,105,100,61,34,110]⟩:ByteArray)++G.mkB (G.dec k))++(⟨#[34]⟩:ByteArray)) (name:=⟨#[110,111,100,101]⟩) (ds:=bU tx esc ls[k]? ss[k]?) ⟨by rw[bsz,bsz,aB];omega,by omega⟩ (by obtain⟨m,a1,a2⟩:=ds1;omega) ds2
   rw[List.length_append];omega
 ·--the edges
  have hkn:k=n:=by omega
  subst hkn
  rw[Nat.sub_self,bX,List.append_nil]at el2
  have mpn:∀{j:Nat} {e:Int × Int},es[j]? =some e->(ndE es)[j]? =some (e.1.toNat,e.2.toNat):=fun{j e} he=>by unfold ndE;rw[List.getElem?_map,he];rfl
  refine⟨fun lz h'=>∃(j:Nat) (A':Option Addr) (c':Nat) (l':List UInt8),lz=[.int .i64 (j:Int)]/\j<=es.length/\Sq h C h' (wX b true A' c' 2 l'++(dV gl aE nE cE es aL nL cL ls aS nS cS ss aW nW cW ws++[Ck.junk h.size]))/\l'++ci tx ((ndE es).drop j) (ws.drop j)=l2++ci tx (ndE es) ws/\l'.length<=25610000+1200*j,
   mI es.length,⟨0,A2,c2,l2,rfl,Nat.zero_le _,Q2,rfl,by omega⟩,?_⟩
  rintro x h14 ⟨j,A3,c3,l3,e,hj,Q3,el3,bl3⟩
  cases e
  refine af (fun q2=>?_) fun q2=>?_
  ·have hjl:j<es.length:=by omega
   have he:es[j]? =some es[j]:=List.getElem?_eq_getElem hjl
   obtain⟨g,o,hg,-⟩:=Q3.sy.atV 3 rfl (i:=(j:Int)) (by omega) (by omega)
   have cx:=Q3.sy.cellV 3 rfl hg (i:=j) (t:=0) he rfl
   have cy:=Q3.sy.cellV 3 rfl hg (i:=j) (t:=1) he rfl
   obtain⟨⟨e1,e2⟩,e3,e4⟩:=hends _ (List.getElem_mem hjl)
   have hm:=mpn he
   generalize es[j]=y at*
   obtain⟨y1,y2⟩:=y
   obtain⟨p1,rfl⟩:∃p1:Nat,y1=(p1:Int):=⟨y1.toNat,by simp at e1;omega⟩
   obtain⟨p2,rfl⟩:∃p2:Nat,y2=(p2:Int):=⟨y2.toNat,by simp at e3;omega⟩
   simp only[Int.toNat_natCast]at hm
   refine⟨g,o,hg,by omega,by omega,(p1:Int),by rw[Int.toNat_natCast];exact cx,(p2:Int),by rw[Int.toNat_natCast];exact cy,?_⟩
   intro h15 h16
   have Q16:Sq h C h16 (wX b true A3 c3 2 l3++(dV gl aE nE cE es aL nL cL ls aS nS cS ss aW nW cW ws++[Ck.junk h.size,Ck.junk h14.size])):=by
    have Qa:Sq h C h15 (wX b true A3 c3 2 l3++(dV gl aE nE cE es aL nL cL ls aS nS cS ss aW nW cW ws++[Ck.junk h.size,Ck.junk h14.size])):=Q3.add1 (Q3.sy.junk _) rfl
    exact⟨(Qa.sy.stJ 8 rfl 0 _).stJ 8 rfl (0+1) _,Qa.ri⟩
   clear_value h16
   clear h15
   refine⟨fun lz h'=>∃dA dC,lz=[.slice dA (gW tx ws[j]?).length dC]/\Sq h C h' (wX b true A3 c3 2 l3++(dV gl aE nE cE es aL nL cL ls aS nS cS ss aW nW cW ws++[Ck.junk h.size,Ck.junk h14.size,Ck.sl eS 9 dA (gW tx ws[j]?).length dC (gW tx ws[j]?)])),af (fun q1=>?_) fun q1=>?_,?_⟩
   ·have hlen:j<ws.length:=by rcases hW with rfl | e<;>simp at* <;>omega
    have hx:ws[j]? =some ws[j]:=List.getElem?_eq_getElem hlen
    obtain⟨g2,o2,hg2,-⟩:=Q16.sy.atV 6 rfl (i:=(j:Int)) (by omega) (by omega)
    obtain⟨t1,tl1⟩:=htw _ (List.getElem_mem hlen)
    have cw:=Q16.sy.cellV 6 rfl hg2 (i:=j) (t:=0) hx rfl
    rw[hx]
    generalize ws[j]=y at*
    refine⟨g2,o2,hg2,by omega,by omega,y,by rw[Int.toNat_natCast];exact cw,?_⟩
    refine ak [] (t1 _ (Q16.sy.glo 2 rfl)) (by simp) (fun _ _ r=>r.2) ?_
    rintro v h17 ⟨rfl,f17⟩
    have Q17:=Q16.gr f17
    refine⟨_,rfl,?_⟩
    intro h18
    have Qb:Sq h C h18 (wX b true A3 c3 2 l3++(dV gl aE nE cE es aL nL cL ls aS nS cS ss aW nW cW ws++[Ck.junk h.size,Ck.junk h14.size])++[Ck.junk h17.size]):=Q17.add1 (Q17.sy.junk _) rfl
    have Q18:=Qb.add1 (Qb.sy.nilS eS 9) rfl
    clear_value h18
    refine⟨_,Q18.sy.ownS 10 rfl,by simp[ag],by decide,by decide,fun sA sC h19 ow f gg _=>⟨sA,sC,rfl,?_⟩⟩
    exact(⟨Q18.sy.appS 10 rfl [(⟨#[100,51]⟩:ByteArray),G.mkB (tx y)] ow f gg rfl rfl,Q18.ri⟩:Sq h C h19 _).pick [0,1,2,3,4,5,6,7,8,10] rfl
   ·have hx:ws[j]? =none:=by rw[List.getElem?_eq_none];omega
    rw[hx]
    exact⟨none,0,rfl,Q16.add1 (Q16.sy.nilS eS 9) rfl⟩
   rintro dA dL dC h20 ⟨dA',dC',e,Q20⟩
   cases e
   refine ak [] (Ay (Q20.sy.glo 2 rfl) (by simp at e2;omega)) (by simp) (fun _ _ r=>r.2) ?_
   rintro v h21 ⟨rfl,f21⟩
   have Q21:=Q20.gr f21
   have d1:=fZ (n:=p1) (by simp at e2;omega)
   have d2:=fZ (n:=p2) (by simp at e4;omega)
   have z15:(⟨#[60,101,100,103,101,32,115,111,117,114,99,101,61,34,110]⟩:ByteArray).size=15:=rfl
   have z11:(⟨#[34,32,116,97,114,103,101,116,61,34,110]⟩:ByteArray).size=11:=rfl
   have z1:(⟨#[34]⟩:ByteArray).size=1:=rfl
   have z4:(⟨#[101,100,103,101]⟩:ByteArray).size=4:=rfl
   refine⟨_,rfl,f21,by rw[aB];omega,by rw[bsz,aB];omega,?_⟩
   refine ak [] (Ay (Q21.sy.glo 2 rfl) (by simp at e4;omega)) (by simp) (fun _ _ r=>r.2) ?_
   rintro v h22 ⟨rfl,f22⟩
   refine⟨_,rfl,f21.trans f22,by rw[bsz,bsz,aB,aB];omega,by rw[bsz,bsz,bsz,aB,aB];omega,?_⟩
   have Q22:Sq h C h22 ((wX b true A3 c3 2 l3++[Ck.sl eS 9 dA (gW tx ws[j]?).length dC (gW tx ws[j]?)])++(dV gl aE nE cE es aL nL cL ls aS nS cS ss aW nW cW ws++[Ck.junk h.size,Ck.junk h14.size])):=(Q21.gr f22).pick [0,1,9,2,3,4,5,6,7,8] rfl
   have hd2:Hd [h.size,h14.size] (dV gl aE nE cE es aL nL cL ls aS nS cS ss aW nW cW ws++[Ck.junk h.size,Ck.junk h14.size]):=by
    intro x hx
    simp only[List.mem_cons,List.not_mem_nil,or_false]at hx
    rcases hx with rfl | rfl
    ·exact⟨5,rfl⟩
    ·exact⟨6,rfl⟩
   have dsz:(∃m,(gW tx ws[j]?).length=2*m/\m<=1)/\∀y∈gW tx ws[j]?,y.size<=100:=by
    cases hx:ws[j]? with
    | none=>exact⟨⟨0,rfl,by omega⟩,fun y hy=>by simp[gW]at hy⟩
    | some w=>
     refine⟨⟨1,rfl,by omega⟩,fun y hy=>?_⟩
     simp only[gW,List.mem_cons,List.not_mem_nil,or_false]at hy
     rcases hy with rfl | rfl
     ·show 2<=100;omega
     ·rw[aB];exact(htw w (List.mem_of_getElem? hx)).2
   obtain⟨ds1,ds2⟩:=dsz
   refine Cw Q22 hd2 (by omega) ⟨by rw[bsz,bsz,bsz,bsz,aB,aB];omega,by omega⟩ (by obtain⟨m,a1,a2⟩:=ds1;exact⟨m,a1,by omega⟩) (fun x hx=>by have:=ds2 x hx;omega) fun A13 c13 h13 Q13=>⟨rfl,?_⟩
   rw[wrN (by omega)]
   refine⟨⟨j+1,A13,c13,_,rfl,hjl,Q13.pick [0,1,2,3,4,5,6,7] rfl,?_,?_⟩,by simp only[mI];omega⟩
   ·rw[<-el3,kQ tx hm,List.append_assoc];rfl
   ·have:=yb (front:=((((⟨#[60,101,100,103,101,32,115,111,117,114,99,101,61,34,110]⟩:ByteArray)++G.mkB (G.dec p1))++(⟨#[34,32,116,97,114,103,101,116,61,34,110]⟩:ByteArray))++G.mkB (G.dec p2))++(⟨#[34]⟩:ByteArray)) (name:=⟨#[101,100,103,101]⟩) (ds:=gW tx ws[j]?) ⟨by rw[bsz,bsz,bsz,bsz,aB,aB];omega,by omega⟩ (by obtain⟨m,a1,a2⟩:=ds1;omega) ds2
    rw[List.length_append];omega
  ·have hjl:j=es.length:=by omega
   have en:(ndE es).drop j=[]:=by rw[List.drop_eq_nil_iff];unfold ndE;rw[List.length_map];omega
   rw[en,ci,List.append_nil]at el3
   rw[<-List.append_assoc,<-el2,<-el3]
   refine⟨rfl,⟨A3,c3,?_⟩,by omega⟩
   rw[hC]
   exact hC▸Q3.pick [0,1,2,3,4,5,6] rfl
end
end Go.Proofs.YtlflalecmhgmjaaGreatDoor.N
