/- graphml.Read: what goes up is caught. Conditions: what a number's text reads as. -/
import Derived.Test.YtemphinmoihdaaaGreatDoorHRead
import Derived.Tactics
import Derived.Tactics2
import Derived.Defers
import Derived.Recover
import Derived.Laws.Pointers
import Derived.Test.YtemphinmoihdaaaGreatDoorSXw
import Derived.Lib.Replace
import Derived.Test.YtemphinmoihdaaaGreatDoorWEnv
import Derived.Test.YtemphinmoihdaaaGreatDoorGTell
import Derived.Test.YtemphinmoihdaaaGreatDoorMWr4
set_option linter.unusedVariables false
set_option linter.unusedSimpArgs false
open Go.IntKind (i64 u64 u8 i32)
namespace Go.Proofs.YtemphinmoihdaaaGreatDoor.N
open Go.Proofs.YtemphinmoihdaaaGreatDoor
open Go.X
open Go.Proofs
set_option maxRecDepth 100000
theorem PW {b:Bool} {a e:Nat} {h:ab}:QJ 18 #[.bool b,QM (a:Int),QM (e:Int)] h (fun v h'=>b=true/\v= .tuple #[]/\h'=h) (fun v h'=>b=false/\v=flx (a,e)/\h'=h):=by
 apply Ak
 unfold S18
 exact⟨fun _ h'=>b=true/\h'=h,bo (fun q=>⟨q,rfl,rfl⟩) fun q=>⟨q,rfl⟩,fun h' q=>⟨q.1,rfl,q.2⟩⟩
def rdX (gl:GL) (s:ByteArray) (rd:ByteArray->Option (Nat × Nat)) (cl:Nat->Nat) (h:ab) (v:Value) (h':ab):Prop:=
 (∃dc aD aL aS aW nD cD nL cL nS cS nW cW,G.fL s rd cl= .ok dc/\v= .tuple #[.agg #[QM (dc.n:Int),.slice aD nD cD,.bool dc.dir,.slice aL nL cL,.slice aS nS cS,.slice aW nW cW],QM 0,QM 0]/\
  Sq h [Ck.glob gl] h' (dcX gl dc aD aL aS aW nD cD nL cL nS cS nW cW))\/
 ∃f,G.fL s rd cl= .no f/\v= .tuple #[.agg #[QM 0,.slice none 0 0,.bool false,.slice none 0 0,.slice none 0 0,.slice none 0 0],QM (f.1:Int),QM (f.2:Int)]/\Fr [] h h'
section
variable {gl:GL} {s:ByteArray} {rd:ByteArray->Option (Nat × Nat)} {cl:Nat->Nat}
abbrev sA (n:Nat):XA:=⟨n+1+1+1,n+1+1+1+1,none,0,none,0,none,0,none,0⟩
theorem CT {h h5:ab} (g:Gl gl h) (e:h5=(((((h.push (.cells z29.toArray 29)).push (.cells #[QM 0] 3)).push (.cells #[QM 0] 32)).push (.map #[] 0)).push (.map #[] 0)).push (.cells (rx s (sA h.size) G.ba).toArray 63)):
  Sq h [Ck.glob gl] h5 (stX gl (h.size+1+1+1+1+1) s (sA h.size) G.ba++[Ck.ob h.size 29 z29,Ck.ob (h.size+1) 3 [QM 0],Ck.ob (h.size+1+1) 32 [QM 0]]):=by
 have Y0:Sy h (aF [Ck.glob gl]) h [Ck.glob gl]:=Sy.start (Hp.one g)
 have Y1:=Sy.newO (ty:=29) Y0 z29
 have Y2:=Sy.newO (ty:=3) Y1 [QM 0]
 have Y3:=Sy.newO (ty:=32) Y2 [QM 0]
 have Y4:=Sy.newM (Sy.newM Y3)
 have Y5:=Sy.newO (ty:=63) Y4 (rx s (sA h.size) G.ba)
 have Y6:=(((Y5.nilS eS 9).nilS eFF 68).nilS eF 66).nilS eN 114
 simp only[Array.size_push]at Y6
 subst e
 have Z:=Y6.pick [6,4,5,7,8,9,10,0,1,2,3] rfl
 exact⟨Z,fun x hx=>.inl (by simpa[rds,stX,Ck.ob,Ck.mp,Ck.sl,Ck.glob]using hx)⟩
theorem CU {w w2:World} {p1 p2 p3:Nat} {f:G.F} {tmps:Array Value} (t2:tmps[2]? =some (pt p1)) (t3:tmps[3]? =some (pt p2)) (t4:tmps[4]? =some (pt p3)) (r:Go.X.Rest w w2) (F:Fr [] w.heap w2.heap)
  (h1:w2.heap[p1]? =some (.cells z29.toArray 29 (0,0))) (h2:w2.heap[p2]? =some (.cells #[QM 0] 3 (0,0))) (h3:w2.heap[p3]? =some (.cells #[QM 0] 32 (0,0))) (n2:p1≠p2/\p1≠p3/\p2≠p3) (l:w.heap.size<=p1/\w.heap.size<=p2/\w.heap.size<=p3)
  (hrd:G.fL s rd cl= .no f):Leaves Tryz.prog Tryz.f7 tmps (fun e w'=>∃v,e=Ending.returned v/\Go.X.Rest w w'/\rdX gl s rd cl w.heap v w'.heap) [{target:=.fn (.func 17) #[pt p1,pt p2,pt p3],args:=#[]}] (.panicking [{v:=flx f,recovered:=false}]) w2:=by
 obtain⟨at_,e⟩:=f
 refine leaves_cons (f:=17) (args:=#[pt p1,pt p2,pt p3]) QB (by simp[go_sem]) ?_
 refine(Gf p1 p2 p3 at_ e w2 h1 h2 h3 n2.1 n2.2.1 n2.2.2).mono ?_
 rintro e' u' w3 ⟨rfl,rfl,r3,e3⟩
 have F2:Fr [] w.heap (w2.heap.push (.cells #[QM (at_:Int),QM (e:Int)] 53)):=F.pushr _
 obtain⟨q1,q2,q3⟩:=Ci (x:=(at_:Int)) (y:=(e:Int)) ((Fr.push w2.heap (.cells #[QM (at_:Int),QM (e:Int)] 53)).blk_some h1 QB) ((Fr.push w2.heap _).blk_some h2 QB) ((Fr.push w2.heap _).blk_some h3 QB) n2
 rw[<-e3]at q1 q2 q3
 refine⟨_,MW t2 t3 t4 q1 q2 q3,_,rfl,r.trans r3,.inr ⟨(at_,e),hrd,rfl,?_⟩⟩
 rw[e3]
 exact(((((((F2.hsetL l.1).hsetL l.1).hsetL l.1).hsetL l.1).hsetL l.1).hsetL l.1).hsetL l.2.1).hsetL l.2.2
set_option maxHeartbeats 1000000 in
theorem ok7 (hn:oQ gl rd cl) {h:ab} (g:Gl gl h) (hsz:s.size<=9223372036854775807) (hu:G.fL s rd cl≠ .un):QH 7 #[.string s] h (rdX gl s rd cl h):=by
 intro w hwh
 subst hwh
 have hmf:∀(fn:Fn) (first cap:Array Value) (w:World),(Instr.makeFunc fn first cap).run Tryz.prog w= .ok (.func fn first cap) w:=fun _ _ _ _=>rfl
 have hmm:∀(t:TypeId) (w:World),(Instr.makeMap t none).run Tryz.prog w= .ok (.map (some w.heap.size)) (w.alloc (.map #[] 0)):=fun _ _=>rfl
 go_enter_defers Tryz.func7,Tryz.ntmps7
 go_wp2_with (fail)
 refine(PW (b:=decide ((s.size:Int)<=262144)) (a:=0) (e:=23) _ rfl).mono fun e w2 r=>?_
 obtain⟨rest,r⟩:=r
 rcases r with⟨v,rfl,hb,rfl,hw⟩ | ⟨v,rfl,hb,rfl,hw⟩
 ·have hs:s.size<=262144:=by have:=of_decide_eq_true hb;omega
  go_wp2_with (fail)
  have hw':w2.heap=((w.heap.push (.cells z29.toArray 29)).push (.cells #[QM 0] 3)).push (.cells #[QM 0] 32):=hw
  have r2:Go.X.Rest w w2:=(((Go.X.Rest.alloc w _).trans (Go.X.Rest.alloc _ _)).trans (Go.X.Rest.alloc _ _)).trans rest
  have Q:=CT (s:=s) (h5:=((w2.heap.push (.map #[] 0)).push (.map #[] 0)).push (.cells (rx s (sA w.heap.size) G.ba).toArray 63)) g (by rw[hw'])
  have HA:Hp _ (stX gl (w.heap.size+1+1+1+1+1) s (sA w.heap.size) G.ba):=(Q.pick [0,1,2,3,4,5,6,7] rfl).hp
  refine(PI hs hn HA hu _ rfl).mono fun e w4 r=>?_
  obtain⟨rest4,r⟩:=r
  have r4:Go.X.Rest w w4:=(((r2.trans (Go.X.Rest.alloc _ _)).trans (Go.X.Rest.alloc _ _)).trans (Go.X.Rest.alloc _ _)).trans rest4
  rcases r with⟨v,rfl,dc,hL,aD,aL,aS,aW,nD,cD,nL,cL,nS,cS,nW,cW,rfl,q⟩ | ⟨v,rfl,f,hL,rfl,q⟩
  ·have Q2:=Sq.call Q q
   have t1:w4.heap[w.heap.size]? =some (.cells #[QM 0,.slice none 0 0,.bool false,.slice none 0 0,.slice none 0 0,.slice none 0 0] 29 (0,0)):=Q2.sy.ok (k:=5) rfl
   have t2:w4.heap[w.heap.size+1]? =some (.cells #[QM 0] 3 (0,0)):=Q2.sy.ok (k:=6) rfl
   have t3:w4.heap[w.heap.size+1+1]? =some (.cells #[QM 0] 32 (0,0)):=Q2.sy.ok (k:=7) rfl
   have k0:w4.cell? ⟨w.heap.size,0,none⟩=some (QM 0):=by simp[World.cell?,t1]
   have k1:w4.cell? ⟨w.heap.size,1,none⟩=some (.slice none 0 0):=by simp[World.cell?,t1]
   have k2:w4.cell? ⟨w.heap.size,2,none⟩=some (.bool false):=by simp[World.cell?,t1]
   have k3:w4.cell? ⟨w.heap.size,3,none⟩=some (.slice none 0 0):=by simp[World.cell?,t1]
   have k4:w4.cell? ⟨w.heap.size,4,none⟩=some (.slice none 0 0):=by simp[World.cell?,t1]
   have k5:w4.cell? ⟨w.heap.size,5,none⟩=some (.slice none 0 0):=by simp[World.cell?,t1]
   have k6:w4.cell? ⟨w.heap.size+1,0,none⟩=some (QM 0):=by simp[World.cell?,t2]
   have k7:w4.cell? ⟨w.heap.size+1+1,0,none⟩=some (QM 0):=by simp[World.cell?,t3]
   have z0:∀o,w4.frozen? ⟨w.heap.size,o,none⟩=false:=fun o=>by simp[World.frozen?,t1]
   have z1:∀o,w4.frozen? ⟨w.heap.size+1,o,none⟩=false:=fun o=>by simp[World.frozen?,t2]
   have z2:∀o,w4.frozen? ⟨w.heap.size+1+1,o,none⟩=false:=fun o=>by simp[World.frozen?,t3]
   go_wp2_with (fail)
   refine leaves_cons (f:=17) (args:=#[pt w.heap.size,pt (w.heap.size+1),pt (w.heap.size+1+1)]) QB (by simp[go_sem]) ?_
   refine(JL ⟨w.heap.size,0,none⟩ ⟨w.heap.size+1,0,none⟩ ⟨w.heap.size+1+1,0,none⟩ _).mono ?_
   rintro e' u' w5 ⟨rfl,rfl,e5⟩
   have Y:=(((((((Q2.sy.stO 5 rfl 0 (QM (dc.n:Int))).stO 5 rfl 1 (.slice aD nD cD)).stO 5 rfl 2 (.bool dc.dir)).stO 5 rfl 3 (.slice aL nL cL)).stO 5 rfl 4 (.slice aS nS cS)).stO 5 rfl 5 (.slice aW nW cW)).stO 6 rfl 0 (QM 0)).stO 7 rfl 0 (QM 0)
   have h5:w5.heap=am (am (am (am (am (am (am (am w4.heap w.heap.size 0 (QM (dc.n:Int))) w.heap.size 1 (.slice aD nD cD)) w.heap.size 2 (.bool dc.dir)) w.heap.size 3 (.slice aL nL cL)) w.heap.size 4 (.slice aS nS cS)) w.heap.size 5 (.slice aW nW cW)) (w.heap.size+1) 0 (QM 0)) (w.heap.size+1+1) 0 (QM 0):=by
    rw[e5,heap_setCell,heap_setCell,heap_setCell,heap_setCell,heap_setCell,heap_setCell,heap_setCell,heap_setCell]
   rw[<-h5]at Y
   have r5:Go.X.Rest w w5:=by
    rw[e5]
    exact(((((((r4.trans (Go.X.Rest.setCell _ _ _)).trans (Go.X.Rest.setCell _ _ _)).trans (Go.X.Rest.setCell _ _ _)).trans (Go.X.Rest.setCell _ _ _)).trans (Go.X.Rest.setCell _ _ _)).trans (Go.X.Rest.setCell _ _ _)).trans (Go.X.Rest.setCell _ _ _)).trans (Go.X.Rest.setCell _ _ _)
   clear e5 h5
   have c1:=Y.ok (k:=5) (c:=Ck.ob w.heap.size 29 [QM (dc.n:Int),.slice aD nD cD,.bool dc.dir,.slice aL nL cL,.slice aS nS cS,.slice aW nW cW]) rfl
   have c2:=Y.ok (k:=6) (c:=Ck.ob (w.heap.size+1) 3 [QM 0]) rfl
   have c3:=Y.ok (k:=7) (c:=Ck.ob (w.heap.size+1+1) 32 [QM 0]) rfl
   refine⟨_,MW (c0:=(dc.n:Int)) (a1:=aD) (n1:=nD) (k1:=cD) (c2:=dc.dir) (a4:=aL) (n4:=nL) (k4:=cL) (a5:=aS) (n5:=nS) (k5:=cS) (a6:=aW) (n6:=nW) (k6:=cW) (x:=0) (y:=0) (p1:=w.heap.size) (p2:=w.heap.size+1) (p3:=w.heap.size+1+1) rfl rfl rfl c1 c2 c3,_,rfl,r5,.inl ⟨dc,aD,aL,aS,aW,nD,cD,nL,cL,nS,cS,nW,cW,hL,rfl,?_⟩⟩
   ·exact⟨Y.pick [0,1,2,3,4] rfl,fun x hx=>.inl (by simpa[rds,dcX,Ck.sl,Ck.glob]using hx)⟩
  ·have Q3:=Sq.drop Q q
   exact CU (f:=f) rfl rfl rfl r4 Q3.fr (Q3.sy.ok (k:=0) rfl) (Q3.sy.ok (k:=1) rfl) (Q3.sy.ok (k:=2) rfl) ⟨Qz,Qz,Qz⟩ ⟨Qz,Qz,Qz⟩ hL
 ·have hs:¬s.size<=262144:=by have:=of_decide_eq_false hb;omega
  have hw':w2.heap=((w.heap.push (.cells z29.toArray 29)).push (.cells #[QM 0] 3)).push (.cells #[QM 0] 32):=hw
  obtain⟨t1,t2,t3⟩:=Mf w.heap (.cells z29.toArray 29) (.cells #[QM 0] 3) (.cells #[QM 0] 32)
  rw[<-hw']at t1 t2 t3
  refine CU (f:=(0,23)) rfl rfl rfl ((((Go.X.Rest.alloc w _).trans (Go.X.Rest.alloc _ _)).trans (Go.X.Rest.alloc _ _)).trans rest) ?_ t1 t2 t3 ⟨Qz,Qz,Qz⟩ ⟨Qz,Qz,Qz⟩ ?_
  ·rw[hw'];exact((Fr.push _ _).pushr _).pushr _
  ·unfold G.fL;rw[decide_eq_false hs];rfl
end
def wX (b:Nat) (u:Bool) (A:QR) (c d:Nat) (l:QS):List Ck:=
 [Ck.ob b 47 [pU u b,.slice A l.length c,QM (d:Int)],Ck.sl (eK .u8) 5 A l.length c (bI l)]
set_option maxHeartbeats 1000000 in
theorem wG (b:Nat) (w:World) (h0:w.cell? ⟨b,0,none⟩=some (.pointer none)) (hsh:w.shape? b=some (47,3)) (hfz:w.frozen? ⟨b,0,none⟩=false):
  Calls Tryz.prog 49 #[.pointer (some ⟨b,0,none⟩)] w fun e w'=>e= .returned (.tuple #[])/\w'=w.setCell ⟨b,0,none⟩ (.pointer (some ⟨b,0,none⟩)):=by
 obtain⟨j,hj,hjs⟩:=Option.map_eq_some_iff.1 (show(Tryz.prog.info? 45).map (·.size)=some 2 by kernel_rfl)
 have t70:Tryz.prog.underlying 43=some (.pointer 45):=by kernel_rfl
 have t164:Tryz.prog.underlying 117=some .unsafePointer:=by kernel_rfl
 go_enter Tryz.func49,Tryz.ntmps49
 go_wp2
 rw[Lib.run_to_unsafe w ⟨b,0,none⟩ t70 t164 hj (by rw[hjs];decide) hsh (by show 0<3;decide)]
 simp only[Result.andThen]
 rw[Oper.upon_value]
 go_wp2
 rw[run_callFunc_extern Tryz.func69 QC QC QC (e:=Extern.AbiNoEscape.same) QC]
 rw[Lib.run_noEscape]
 simp only[Result.andThen]
 rw[Oper.upon_value]
 go_wp2
 rw[Lib.run_from_unsafe w ⟨b,0,none⟩ t164 t70 hj hsh QC]
 simp only[Result.andThen]
 rw[Oper.upon_value]
 go_wp2
 go_end0
 exact⟨rfl,rfl⟩
set_option maxHeartbeats 2000000 in
theorem JE {b g cap:Nat} {p dv:Value} {l:QS} {cur:Array Value} (w:World) (h0:l≠[]) (hb:w.heap[b]? =some (.cells #[p,.slice (some ⟨g,0,none⟩) l.length cap,dv] 47 (0,0)))
  (hg:Blk w.heap g 5 cur) (hnc:l.length<=cap) (hcm:cap<=maxLen) (hcs:cap*1<=cur.size) (ht:cur.toList.take (l.length*1)=(eK .u8).l (bI l)):
  Calls Tryz.prog 16 #[.pointer (some ⟨b,0,none⟩)] w fun e w'=>e= .returned (.string ⟨l.toArray⟩)/\Go.X.Rest w w'/\Fr [g] w.heap w'.heap:=by
 have hl0:l.length≠0:=by simpa using h0
 have t127:Tryz.prog.underlying 85=some (.pointer 5):=by kernel_rfl
 have cB:Tryz.prog.cellsOf 5=1:=by kernel_rfl
 obtain⟨f,hgc,_⟩:=hg
 have hgc:w.heap[g]? =some (.cells cur 5 f):=hgc
 have c1:w.drew.cell? ⟨b,1,none⟩=some (.slice (some ⟨g,0,none⟩) l.length cap):=by
  have:w.drew.heap[b]? =some (.cells #[p,.slice (some ⟨g,0,none⟩) l.length cap,dv] 47 (0,0)):=hb
  rw[Lib.cell_of_heap this];rfl
 have hSD:(Builtin.unsafeSliceData_ #[35] 85 #[.slice (some ⟨g,0,none⟩) l.length cap]).run Tryz.prog w.drew= .ok (.pointer (some ⟨g,0,none⟩)) w.drew:=
  Lib.run_unsafeSliceData_row _ _ _ _ _ _ Qz
 have hUS:(Builtin.unsafeString_ #[85,3] 9 #[.pointer (some ⟨g,0,none⟩),QM l.length]).run Tryz.prog w.drew= .ok (.string ⟨l.toArray⟩) (w.drew.freeze ⟨g,0,none⟩ l.length):=by
  refine Lib.run_unsafeString_row w.drew 85 3 9 5 t127 cB g cur.size (by have hg':w.drew.heap[g]? =some (.cells cur 5 f):=hgc;simp[World.shape?,hg']) l h0 Qz (by unfold maxLen at hcm;omega) ?_
  intro j x hx
  have hg':w.drew.heap[g]? =some (.cells cur 5 f):=hgc
  have hj:j<l.length:=(List.getElem?_eq_some_iff.1 hx).1
  have e1:(cur.toList.take (l.length*1))[j]? =some (QP x.toNat):=by
   rw[ht,yq,bI,List.map_map,List.getElem?_map,hx];rfl
  rw[List.getElem?_take,if_pos Qz]at e1
  have ea:((⟨g,0,none⟩:Addr).add j)=⟨g,0+j,none⟩:=by simp[Addr.add];omega
  rw[ea,bq]
  unfold ac
  rw[hg',Nat.zero_add];simpa using e1
 have fz:=Bc (w:=w) (g:=g) (n:=l.length)
 have rz:=wc (w:=w) (g:=g) (n:=l.length)
 have mixed:Tryz.prog.follows .mixedOrders=true:=by kernel_rfl
 go_enter Tryz.func16,Tryz.ntmps16
 go_wp2
 go_region_o
 all_goals (go_wp2;go_ret;exact⟨rfl,rz,fz⟩)
section
variable {b c d:Nat} {u:Bool} {A:QR} {l:QS} {h:ab}
theorem CG (H:Hp h (wX b u A c d l)):QH 49 #[.pointer (some ⟨b,0,none⟩)] h fun v h'=>v= .tuple #[]/\Sq h (wX b u A c d l) h' (wX b true A c d l):=by
 intro w hw
 subst hw
 have hb:w.heap[b]? =some (.cells #[pU u b,.slice A l.length c,QM (d:Int)] 47 (0,0)):=H.ok 0 _ rfl
 cases u with
 | true=>
  have h0:w.cell? ⟨b,0,none⟩=some (.pointer (some ⟨b,0,none⟩)):=by rw[bq,aQ hb];rfl
  refine(Bb b w h0).mono fun e w' r=>?_
  grind [Rest.refl,Sq.start]
 | false=>
  have h0:w.cell? ⟨b,0,none⟩=some (.pointer none):=by rw[bq,aQ hb];rfl
  have hsh:w.shape? b=some (47,3):=by simp[World.shape?,hb]
  have hfz:w.frozen? ⟨b,0,none⟩=false:=by simp[World.frozen?,hb]
  refine(wG b w h0 hsh hfz).mono fun e w' r=>?_
  obtain⟨rfl,rfl⟩:=r
  refine⟨_,rfl,Rest.setCell _ _ _,rfl,?_⟩
  rw[heap_setCell]
  exact⟨(Sy.start H).stO 0 rfl 0 (.pointer (some ⟨b,0,none⟩)),fun x hx=>by simp[rds,wX,Ck.ob,Ck.sl]at hx⟩
theorem IP {c' d':Nat} {u':Bool} {A':QR} {l':QS}:rds (wX b u' A' c' d' l')=[]:=rfl
theorem IQ {s:ByteArray} (H:Hp h (wX b u A c d l)) (hs:l.length+s.size<=100000000):QH 27 #[.pointer (some ⟨b,0,none⟩),.string s] h fun v h'=>v= .tuple #[QM (s.size:Int),.nilIface]/\
  ∃A' c',Sq h (wX b u A c d l) h' (wX b true A' c' d (l++s.data.toList)):=by
 apply Gy
 unfold S27
 refine ao (aF (wX b u A c d l)) (CG H) QB (fun _ _ r=>r.2.fr) fun v h1 r=>?_
 obtain⟨rfl,Q⟩:=r
 have Y:=Q.sy
 refine⟨rfl,b,0,rfl,A,l.length,c,Y.cellO 0 rfl 1 rfl,(eK .u8).l (bI l),(Y.ownS 1 rfl),QB,Qz,by unfold maxLen;omega,?_⟩
 intro sA sC h2 ow f g _
 have e:Lib.strCells s=(eK .u8).l (bI s.data.toList):=(jP s).symm
 rw[e]at ow
 have Y1:=Y.appS 1 rfl (bI s.data.toList) ow f g rfl (by rw[kL];rfl)
 refine⟨b,0,rfl,⟨_,Y1.cellO 0 rfl 1 rfl⟩,Y1.freeO 0 rfl 1,rfl,sA,sC,?_,fun x hx=>by rw[IP]at hx;cases hx⟩
 have Y2:=Y1.stO 0 rfl 1 (.slice sA (l.length+s.size) sC)
 have el:(l++s.data.toList).length=l.length+s.size:=List.length_append
 unfold wX
 rw[el,qs]
 exact Y2
theorem Mr {x:UInt8} (H:Hp h (wX b u A c d l)) (hs:l.length<=100000000):QH 29 #[.pointer (some ⟨b,0,none⟩),QP ((x.toNat:Nat):Int)] h fun v h'=>v= .nilIface/\
  ∃A' c',Sq h (wX b u A c d l) h' (wX b true A' c' d (l++[x])):=by
 apply Gz
 unfold S29
 refine ao (aF (wX b u A c d l)) (CG H) QB (fun _ _ r=>r.2.fr) fun v h1 r=>?_
 obtain⟨rfl,Q⟩:=r
 have Y:=Q.sy
 refine⟨rfl,b,0,rfl,A,l.length,c,Y.cellO 0 rfl 1 rfl,?_⟩
 intro h2
 have Y1:Sy h _ h2 (wX b true A c d l):=Y.gr (Fr.push h1 _)
 have hbl:b<h1.size:=IL Y 0 rfl b (by simp[Ck.ob])
 have hbA:∀y∈ai A,y<h1.size:=IL Y 1 rfl
 refine⟨(eK .u8).l (bI l),Y1.ownS 1 rfl,fun y hy=>?_,Qz,by unfold maxLen;omega,?_⟩
 ·grind
 intro sA sC h3 ow f g _
 have Y2:=Y1.appS 1 rfl (bI [x]) ow f g rfl rfl
 refine⟨b,0,rfl,Qz,⟨_,Y2.cellO 0 rfl 1 rfl⟩,Y2.freeO 0 rfl 1,rfl,sA,sC,?_,fun x hx=>by rw[IP]at hx;cases hx⟩
 have Y3:=Y2.stO 0 rfl 1 (.slice sA (l.length+1) sC)
 grind [wX,qs]
theorem Mu (H:Hp h (wX b u A c d l)):QH 15 #[.pointer (some ⟨b,0,none⟩)] h fun v h'=>v= QM (l.length:Int)/\h'=h:=by
 apply Gx
 unfold S15
 exact⟨b,0,rfl,A,l.length,c,(Sy.start H).cellO 0 rfl 1 rfl,rfl,rfl⟩
theorem Mw (H:Hp h (wX b u A c d l)) (h0:l≠[]):QH 16 #[.pointer (some ⟨b,0,none⟩)] h fun v h'=>v= .string (G.mkB l)/\Fr (aF (wX b u A c d l)) h h':=by
 intro w hw
 subst hw
 have hb:w.heap[b]? =some (.cells #[pU u b,.slice A l.length c,QM (d:Int)] 47 (0,0)):=H.ok 0 _ rfl
 obtain⟨⟨o1,o2⟩,_⟩:ar w.heap 5 1 A l.length c ((eK .u8).l (bI l))/\_:=H.ok 1 _ rfl
 have hl0:l.length≠0:=by simpa using h0
 rcases o2 with⟨_,q,_⟩ | ⟨g,cur,rfl,q1,q2,q3,q4,q5⟩
 ·omega
 refine(JE w h0 hb q1 q2 q3 q4 q5).mono fun e w' ⟨r1,r2,r3⟩=>⟨_,r1,r2,rfl,r3.mono fun x hx=>?_⟩
 grind [aF,wX,Ck.sl,ai]
end
set_option maxHeartbeats 2000000
def S24 (g:Int) (gA:QR) (gL gC:Nat) (h:ab) (R:VP):Prop:=let f:ab:=h.push (.cells #[QM g,.slice gA gL gC] 24);let n:=fun(r:ab)=>(R (.bool false) r);cnd (decide (g<0)) (n f) (cnd (decide (g>1024)) (n f) (cnd (decide ((gL:Int)>(3072:Int))) (R (.bool false) f) (∃(i:LP) (p:List Value->ab->Nat),i [QM 0] f/\∀a:Int,∀c,i [QM a] c->cnd (decide (a<(gL:Int))) (∃b o,gA=some ⟨b,o,none⟩/\0<=a/\a<(gL:Nat)/\∃k:Int,ac c b (o+(Int.toNat a)*2)=some (QM k)/\∃l:Int,ac c b ((o+(Int.toNat a)*2)+1)=some (QM l)/\let s:ab:=c.push (.cells #[QM 0,QM 0] 71);let t:ab:=am (am s c.size 0 (QM k)) c.size (0+1) (QM l);∃(j:LP) (q:List Value->ab->Nat),j [QM 0] t/\∀e:Int,∀d,j [QM e] d->cnd (decide (e<2)) (0<=e/\e<(2:Int)/\∃m:Int,(#[QM k,QM l]:Array Value)[Int.toNat e]? =some (QM m)/\cnd (decide (m<0)) (R (.bool false) d) (cnd (decide (m>=g)) (R (.bool false) d) (j [QM (i64.wrap (e+1))] d/\q [QM (i64.wrap (e+1))] d<q [QM e] d))) (i [QM (i64.wrap (a+1))] d/\p [QM (i64.wrap (a+1))] d<p [QM a] c)) (R (.bool true) c))))
theorem Hk {h:ab} {R:VP} (g:Int) (gA:QR) (gL gC:Nat) (H:S24 g gA gL gC h R):QH 24 #[.agg #[QM g,.slice gA gL gC]] h R:=aN [1,4] 42 [(0,⟨[1,22,23],[24],[1],[]⟩),(2,⟨[1,22,23,24,28],[29],[1],[]⟩)] [] [] [] Tryz.func24 QC QC H
def Kn (g:Int) (edgesV:List (Int × Int)) (R:Bool->Prop):Prop:=
 ∀(h:ab) (gA:QR) (gL gC:Nat),Hp h [Ck.vw eP gA gL gC edgesV]->QH 24 #[.agg #[QM g,.slice gA gL gC]] h fun v h'=>∃(rV:Bool),Sy h [] h' []/\v= .bool rV/\R rV
def T24 (g:Int) (edgesV:List (Int × Int)) (R:Bool->Prop):Prop:=∃e:Prop,(cnd (decide (g<0)) (e) (cnd (decide (g>1024)) (e) (cnd (decide ((edgesV.length:Int)>(3072:Int))) (R false) (∃(c:Int->Prop) (i:Int->Nat),c 0/\∀a:Int,c a->cnd (decide (a<(edgesV.length:Int))) (0<=a/\a<(edgesV.length:Int)/\∀f:(Int × Int),edgesV[(Int.toNat a)]? =some f->∃(d:Int->Prop) (j:Int->Nat),d 0/\∀b:Int,d b->cnd (decide (b<2)) (0<=b/\b<(2:Int)/\∃h:Int,(#[QM f.1,QM f.2]:Array Value)[Int.toNat b]? =some (QM h)/\cnd (decide (h<0)) (R false) (cnd (decide (h>=g)) (R false) (d (i64.wrap (b+1))/\j (i64.wrap (b+1))<j b))) (c (i64.wrap (a+1))/\i (i64.wrap (a+1))<i a)) (R true)))))/\(e->R false)
theorem Qh {g edgesV} {R:Bool->Prop} (T:T24 g edgesV R):Kn g edgesV R:=by
 intro h gA gL gC H;have Y:Sy h [] h _:=Sy.startM H rfl;obtain rfl:=Y.lenV 0 rfl;apply Hk;unfold S24;unfold T24 at T;intro hv;have Y:Sy _ _ hv [_,_]:=Y.junk _;clear_value hv;obtain⟨Jv,T0,T1⟩:=T;obtain⟨B,hB,_⟩:=Y.cut [] [0,1] rfl;intro K;have hK:∀(hv2:ab),(Sy h [] hv2 ([]++B)/\Jv)->K hv2:=by
  subst hB;clear T0 Y;rintro hv2 ⟨Y,T⟩;replace T:=T1 T;have Y:Sy _ _ _ [_,_]:=Y;unfold K;exact⟨_,Y.pick [] rfl,rfl,T⟩
 subst hB;replace T:=T0;clear T0 T1;refine ag T (fun T=>?_) (fun T=>?_)
 ·exact hK _ ⟨Y.pick [0,1] rfl,T⟩
 ·refine ag T (fun T=>?_) (fun T=>?_)
  ·exact hK _ ⟨Y.pick [0,1] rfl,T⟩
  ·refine ag T (fun T=>?_) (fun T=>?_)
   ·exact⟨_,Y.pick [] rfl,rfl,T⟩
   ·obtain⟨Iv,m,T0,T1⟩:=T;obtain⟨B_2,hB_2,YB⟩:=Y.cut [] [0,1] rfl;obtain⟨JJ,hJJ⟩:∃JJ:Nat->LP,JJ=(fun k lz h'=>∃(x:Int),lz=[QM x]/\Sy h [] h' ([]++B_2)/\Iv x/\m x=k):=⟨_,rfl⟩;refine⟨fun lz h'=>∃k,JJ k lz h',Lm JJ,?_,?_⟩
    ·subst hJJ hB_2;exact⟨_,_,rfl,YB,T0,rfl⟩
    ·clear YB T0 Y;intro x hv3 hI;obtain⟨k,hI,hm⟩:=gd hI;subst hJJ hB_2;obtain⟨x,e,Y,T,rfl⟩:=hI;cases e;replace T:=T1 x T;have Y:Sy _ _ _ [_,_]:=Y;refine ag T (fun T=>?_) (fun T=>?_)
     ·obtain⟨q,q_2,T⟩:=T;obtain⟨b_2,o_2,hb,hr,g_2,hx⟩:=Y.atV 0 rfl q q_2;refine⟨b_2,o_2,hb,q,q_2,?_⟩;replace T:=T g_2 hx;refine⟨_,Y.cellV 0 rfl hb (t:=0) hx rfl,?_⟩;refine⟨_,Y.cellV 0 rfl hb (t:=1) hx rfl,?_⟩;intro hv4;have Y:Sy _ _ hv4 [_,_,_]:=Y.junk _;clear_value hv4;intro hv5;have Y:Sy _ _ hv5 [_,_,_]:=((Y.stJ 2 rfl _ _).stJ 2 rfl _ _);clear_value hv5;obtain⟨Iv2,m2,T0,T1⟩:=T;obtain⟨B_3,hB_3,YB⟩:=Y.cut [] [0,1,2] rfl;obtain⟨JJ_2,hJJ_2⟩:∃JJ_2:Nat->LP,JJ_2=(fun k_2 lz h'=>∃(x4:Int),lz=[QM x4]/\Sy h [] h' ([]++B_3)/\Iv2 x4/\m2 x4=k_2):=⟨_,rfl⟩;refine⟨fun lz h'=>∃k_2,JJ_2 k_2 lz h',Lm JJ_2,?_,?_⟩
      ·subst hJJ_2 hB_3;exact⟨_,_,rfl,YB,T0,rfl⟩
      ·clear YB T0 Y;intro x4 hv6 hI;obtain⟨k_2,hI,hm_2⟩:=gd hI;subst hJJ_2 hB_3;obtain⟨x4,e,Y,T,rfl⟩:=hI;cases e;replace T:=T1 x4 T;have Y:Sy _ _ _ [_,_,_]:=Y;refine ag T (fun T=>?_) (fun T=>?_)
       ·obtain⟨q_3,q_4,x5,q_5,T⟩:=T;refine⟨q_3,q_4,x5,q_5,?_⟩;refine ag T (fun T=>?_) (fun T=>?_)
        ·exact⟨_,Y.pick [] rfl,rfl,T⟩
        ·refine ag T (fun T=>?_) (fun T=>?_)
         ·exact⟨_,Y.pick [] rfl,rfl,T⟩
         ·exact cK hm_2 ⟨_,rfl,Y.pick [0,1,2] rfl,T.1,rfl⟩ T.2
       ·exact cK hm ⟨_,rfl,Y.pick [0,1] rfl,T.1,rfl⟩ T.2
     ·exact⟨_,Y.pick [] rfl,rfl,T⟩
def S25 (length n:Int) (h:ab) (R:VP):Prop:=cnd (length==0) (R (.bool true) h) (R (.bool (length==n)) h)
theorem Hl {h:ab} {R:VP} (length n:Int) (H:S25 length n h R):QH 25 #[QM length,QM n] h R:=aN [] 12 [] [] [] [] Tryz.func25 QC QC H
def DI (length n:Int) (R:Bool->Prop):Prop:=
 ∀(h:ab),Hp h []->QH 25 #[QM length,QM n] h fun v h'=>∃(rV:Bool),Sy h [] h' []/\v= .bool rV/\R rV
def T25 (length n:Int) (R:Bool->Prop):Prop:=cnd (length==0) (R true) (R (length==n))
theorem Qi {length n} {R:Bool->Prop} (T:T25 length n R):DI length n R:=by
 intro h H;have Y:Sy h [] h _:=Sy.startM H rfl;apply Hl;unfold S25;unfold T25 at T;refine ag T (fun T=>?_) (fun T=>?_)
 ·exact⟨_,Y.pick [] rfl,rfl,T⟩
 ·exact⟨_,Y.pick [] rfl,rfl,T⟩
def N2 (s:ByteArray) (R:Bool->Prop):Prop:=
 ∀(h:ab),Hp h []->QH 26 #[.string s] h fun v h'=>∃(rV:Bool),Sy h [] h' []/\v= .bool rV/\R rV
def S11 (d:Int) (dA:QR) (dL dC:Nat) (d2:Bool) (dA2:QR) (dL2 dC2:Nat) (dA3:QR) (dL3 dC3:Nat) (dA4:QR) (dL4 dC4:Nat) (h:ab) (R:VP):Prop:=let u:ab:=h.push (.cells #[QM d,.slice dA dL dC,.bool d2,.slice dA2 dL2 dC2,.slice dA3 dL3 dC3,.slice dA4 dL4 dC4] 29);let f:=fun(v:ab)=>(R (.bool false) v);QG 24 #[.agg #[QM d,.slice dA dL dC]] u [h.size] fun w i=>∃n:Bool,w= .bool n/\cnd (!n) (f i) (QG 25 #[QM (dL2:Int),QM d] i [h.size] fun x j=>∃p:Bool,x= .bool p/\cnd (!p) (f j) (QG 25 #[QM (dL3:Int),QM d] j [h.size] fun y k=>∃q:Bool,y= .bool q/\cnd (!q) (f k) (QG 25 #[QM (dL4:Int),QM (dL:Int)] k [h.size] fun z l=>∃r:Bool,z= .bool r/\cnd (!r) (R (.bool false) l) (∃(e:LP) (m:List Value->ab->Nat),e [QM 0] l/\∀a:Int,∀c,e [QM a] c->cnd (decide (a<(dL2:Int))) (∃b o,dA2=some ⟨b,o,none⟩/\0<=a/\a<(dL2:Nat)/\∃t:ByteArray,ac c b (o+(Int.toNat a)*1)=some (.string t)/\QG 26 #[.string t] c [] fun A g=>∃s:Bool,A= .bool s/\cnd (!s) (R (.bool false) g) (e [QM (i64.wrap (a+1))] g/\m [QM (i64.wrap (a+1))] g<m [QM a] c)) (R (.bool true) c)))))
theorem Hn {h:ab} {R:VP} (d:Int) (dA:QR) (dL dC:Nat) (d2:Bool) (dA2:QR) (dL2 dC2:Nat) (dA3:QR) (dL3 dC3:Nat) (dA4:QR) (dL4 dC4:Nat) (H:S11 d dA dL dC d2 dA2 dL2 dC2 dA3 dL3 dC3 dA4 dL4 dC4 h R):QH 11 #[.agg #[QM d,.slice dA dL dC,.bool d2,.slice dA2 dL2 dC2,.slice dA3 dL3 dC3,.slice dA4 dL4 dC4]] h R:=aN [1] 51 [(0,⟨[41,42],[43],[],[]⟩)] [] [] [] Tryz.func11 QC QC H
def N3 (d:Int) (edgesV:List (Int × Int)) (d2:Bool) (labelsV:List ByteArray) (atV:List (Nat × Nat)) (weightV:List Nat) (R:Bool->Prop):Prop:=
 ∀(h:ab) (dA:QR) (dL dC:Nat) (dA2:QR) (dL2 dC2:Nat) (dA3:QR) (dL3 dC3:Nat) (dA4:QR) (dL4 dC4:Nat),Hp h [Ck.vw eP dA dL dC edgesV,Ck.vw eS dA2 dL2 dC2 labelsV,Ck.vw eFF dA3 dL3 dC3 atV,Ck.vw eF dA4 dL4 dC4 weightV]->QH 11 #[.agg #[QM d,.slice dA dL dC,.bool d2,.slice dA2 dL2 dC2,.slice dA3 dL3 dC3,.slice dA4 dL4 dC4]] h fun v h'=>∃(rV:Bool),Sy h [] h' []/\v= .bool rV/\R rV
def T11 (d:Int) (edgesV:List (Int × Int)) (d2:Bool) (labelsV:List ByteArray) (atV:List (Nat × Nat)) (weightV:List Nat) (R:Bool->Prop):Prop:=∃b:Prop,(Kn d edgesV (fun g=>cnd (!g) (b) (DI (labelsV.length:Int) d (fun h=>cnd (!h) (b) (DI (atV.length:Int) d (fun i=>cnd (!i) (b) (DI (weightV.length:Int) (edgesV.length:Int) (fun j=>cnd (!j) (R false) (∃(c:Int->Prop) (f:Int->Nat),c 0/\∀a:Int,c a->cnd (decide (a<(labelsV.length:Int))) (0<=a/\a<(labelsV.length:Int)/\∀e:ByteArray,labelsV[(Int.toNat a)]? =some e->N2 e (fun k=>cnd (!k) (R false) (c (i64.wrap (a+1))/\f (i64.wrap (a+1))<f a))) (R true))))))))))/\(b->R false)
theorem Qj {d edgesV d2 labelsV atV weightV} {R:Bool->Prop} (T:T11 d edgesV d2 labelsV atV weightV R):N3 d edgesV d2 labelsV atV weightV R:=by
 intro h dA dL dC dA2 dL2 dC2 dA3 dL3 dC3 dA4 dL4 dC4 H;have Y:Sy h [] h _:=Sy.startM H rfl;obtain rfl:=Y.lenV 0 rfl;obtain rfl:=Y.lenV 1 rfl;obtain rfl:=Y.lenV 2 rfl;obtain rfl:=Y.lenV 3 rfl;apply Hn;unfold S11;unfold T11 at T;intro hv;have Y:Sy _ _ hv [_,_,_,_,_]:=Y.junk _;clear_value hv;obtain⟨Jv,T0,T1⟩:=T;obtain⟨B,hB,_⟩:=Y.cut [] [0,1,2,3,4] rfl;intro K;have hK:∀(hv6:ab),(Sy h [] hv6 ([]++B)/\Jv)->K hv6:=by
  subst hB;clear T0 Y;rintro hv6 ⟨Y,T⟩;replace T:=T1 T;have Y:Sy _ _ _ [_,_,_,_,_]:=Y;unfold K;exact⟨_,Y.pick [] rfl,rfl,T⟩
 subst hB;replace T:=T0;clear T0 T1;refine ak (T _ _ _ _ (Y.pick [0] rfl).hp) (fun _ _ ⟨_,p,_⟩=>p.fr) (bQ (fun h=>by cases h) aI) ?_;rintro v hv2 ⟨r,PP,rfl,T⟩;have Y:Sy _ _ hv2 [_,_,_,_,_]:=Y.gr PP.fr;clear PP;refine⟨r,rfl,?_⟩;refine ag T (fun T=>?_) (fun T=>?_)
 ·exact hK _ ⟨Y.pick [0,1,2,3,4] rfl,T⟩
 ·refine ak (T _ (Hp.nil _)) (fun _ _ ⟨_,p,_⟩=>p.fr) (bQ (fun h=>by cases h) aI) ?_;rintro v2 hv3 ⟨r2,PP,rfl,T⟩;have Y:Sy _ _ hv3 [_,_,_,_,_]:=Y.gr PP.fr;clear PP;refine⟨r2,rfl,?_⟩;refine ag T (fun T=>?_) (fun T=>?_)
  ·exact hK _ ⟨Y.pick [0,1,2,3,4] rfl,T⟩
  ·refine ak (T _ (Hp.nil _)) (fun _ _ ⟨_,p,_⟩=>p.fr) (bQ (fun h=>by cases h) aI) ?_;rintro v3 hv4 ⟨r3,PP,rfl,T⟩;have Y:Sy _ _ hv4 [_,_,_,_,_]:=Y.gr PP.fr;clear PP;refine⟨r3,rfl,?_⟩;refine ag T (fun T=>?_) (fun T=>?_)
   ·exact hK _ ⟨Y.pick [0,1,2,3,4] rfl,T⟩
   ·refine ak (T _ (Hp.nil _)) (fun _ _ ⟨_,p,_⟩=>p.fr) (bQ (fun h=>by cases h) aI) ?_;rintro v4 hv5 ⟨r4,PP,rfl,T⟩;have Y:Sy _ _ hv5 [_,_,_,_,_]:=Y.gr PP.fr;clear PP;refine⟨r4,rfl,?_⟩;refine ag T (fun T=>?_) (fun T=>?_)
    ·exact⟨_,Y.pick [] rfl,rfl,T⟩
    ·obtain⟨Iv,m,T0,T1⟩:=T;obtain⟨B_2,hB_2,YB⟩:=Y.cut [] [0,1,2,3,4] rfl;obtain⟨JJ,hJJ⟩:∃JJ:Nat->LP,JJ=(fun k lz h'=>∃(x:Int),lz=[QM x]/\Sy h [] h' ([]++B_2)/\Iv x/\m x=k):=⟨_,rfl⟩;refine⟨fun lz h'=>∃k,JJ k lz h',Lm JJ,?_,?_⟩
     ·subst hJJ hB_2;exact⟨_,_,rfl,YB,T0,rfl⟩
     ·clear YB T0 Y;intro x hv7 hI;obtain⟨k,hI,hm⟩:=gd hI;subst hJJ hB_2;obtain⟨x,e,Y,T,rfl⟩:=hI;cases e;replace T:=T1 x T;have Y:Sy _ _ _ [_,_,_,_,_]:=Y;refine ag T (fun T=>?_) (fun T=>?_)
      ·obtain⟨q,q_2,T⟩:=T;obtain⟨b_2,o_2,hb,hr,d_2,hx⟩:=Y.atV 1 rfl q q_2;refine⟨b_2,o_2,hb,q,q_2,?_⟩;replace T:=T d_2 hx;refine⟨_,Y.cellV 1 rfl hb (t:=0) hx rfl,?_⟩;refine ak (T _ (Hp.nil _)) (fun _ _ ⟨_,p,_⟩=>p.fr) aI ?_;rintro v5 hv8 ⟨r5,PP,rfl,T⟩;have Y:Sy _ _ hv8 [_,_,_,_,_]:=Y.gr PP.fr;clear PP;refine⟨r5,rfl,?_⟩;refine ag T (fun T=>?_) (fun T=>?_)
       ·exact⟨_,Y.pick [] rfl,rfl,T⟩
       ·exact cK hm ⟨_,rfl,Y.pick [0,1,2,3,4] rfl,T.1,rfl⟩ T.2
      ·exact⟨_,Y.pick [] rfl,rfl,T⟩
def S10 (g:Int) (gA:QR) (gL gC:Nat) (h:ab) (R:VP):Prop:=let e:ab:=h.push (.cells #[QM g,.slice gA gL gC] 24);let k:=fun(q:ab)=>(R (.bool false) q);cnd (decide (g<0)) (k e) (cnd (decide (g>1024)) (k e) (cnd (decide ((gL:Int)>(3072:Int))) (R (.bool false) e) (∃(i:LP) (l:List Value->ab->Nat),i [QM 0] e/\∀a:Int,∀f,i [QM a] f->cnd (decide (a<(gL:Int))) (∃(j:LP) (m:List Value->ab->Nat),j [QM 0] f/\∀c:Int,∀d,j [QM c] d->cnd (decide (c<2)) (∃b o,gA=some ⟨b,o,none⟩/\0<=a/\a<(gL:Nat)/\0<=c/\c<(2:Int)/\∃n:Int,ac d b ((o+(Int.toNat a)*2)+(Int.toNat c)*1)=some (QM n)/\cnd (decide (n<0)) (R (.bool false) d) (∃b2 o2,gA=some ⟨b2,o2,none⟩/\0<=a/\a<(gL:Nat)/\0<=c/\c<(2:Int)/\∃p:Int,ac d b2 ((o2+(Int.toNat a)*2)+(Int.toNat c)*1)=some (QM p)/\cnd (decide (p>=g)) (R (.bool false) d) (j [QM (i64.wrap (c+1))] d/\m [QM (i64.wrap (c+1))] d<m [QM c] d))) (i [QM (i64.wrap (a+1))] d/\l [QM (i64.wrap (a+1))] d<l [QM a] f)) (R (.bool true) f))))
theorem Hs {h:ab} {R:VP} (g:Int) (gA:QR) (gL gC:Nat) (H:S10 g gA gL gC h R):QH 10 #[.agg #[QM g,.slice gA gL gC]] h R:=aN [1] 50 [(0,⟨[1],[3],[1],[]⟩),(2,⟨[1,3],[4],[1],[]⟩)] [] [] [(9,⟨20,false⟩)] Tryz.func10 QC QC H
def KC (g:Int) (edgesV:List (Int × Int)) (R:Bool->Prop):Prop:=
 ∀(h:ab) (gA:QR) (gL gC:Nat),Hp h [Ck.vw eP gA gL gC edgesV]->QH 10 #[.agg #[QM g,.slice gA gL gC]] h fun v h'=>∃(rV:Bool),Sy h [] h' []/\v= .bool rV/\R rV
def T10 (g:Int) (edgesV:List (Int × Int)) (R:Bool->Prop):Prop:=∃e:Prop,(cnd (decide (g<0)) (e) (cnd (decide (g>1024)) (e) (cnd (decide ((edgesV.length:Int)>(3072:Int))) (R false) (∃(c:Int->Prop) (h:Int->Nat),c 0/\∀b:Int,c b->cnd (decide (b<(edgesV.length:Int))) (∃(d:Int->Prop) (i:Int->Nat),d 0/\∀a:Int,d a->cnd (decide (a<2)) (0<=b/\b<(edgesV.length:Int)/\0<=a/\a<(2:Int)/\∀f:(Int × Int),edgesV[(Int.toNat b)]? =some f->cnd (decide ((kE f a)<(0:Int))) (R false) (0<=a/\a<(2:Int)/\cnd (decide ((kE f a)>=g)) (R false) (d (i64.wrap (a+1))/\i (i64.wrap (a+1))<i a))) (c (i64.wrap (b+1))/\h (i64.wrap (b+1))<h b)) (R true)))))/\(e->R false)
theorem Ql {g edgesV} {R:Bool->Prop} (T:T10 g edgesV R):KC g edgesV R:=by
 intro h gA gL gC H;have Y:Sy h [] h _:=Sy.startM H rfl;obtain rfl:=Y.lenV 0 rfl;apply Hs;unfold S10;unfold T10 at T;intro hv;have Y:Sy _ _ hv [_,_]:=Y.junk _;clear_value hv;obtain⟨Jv,T0,T1⟩:=T;obtain⟨B,hB,_⟩:=Y.cut [] [0,1] rfl;intro K;have hK:∀(hv2:ab),(Sy h [] hv2 ([]++B)/\Jv)->K hv2:=by
  subst hB;clear T0 Y;rintro hv2 ⟨Y,T⟩;replace T:=T1 T;have Y:Sy _ _ _ [_,_]:=Y;unfold K;exact⟨_,Y.pick [] rfl,rfl,T⟩
 subst hB;replace T:=T0;clear T0 T1;refine ag T (fun T=>?_) (fun T=>?_)
 ·exact hK _ ⟨Y.pick [0,1] rfl,T⟩
 ·refine ag T (fun T=>?_) (fun T=>?_)
  ·exact hK _ ⟨Y.pick [0,1] rfl,T⟩
  ·refine ag T (fun T=>?_) (fun T=>?_)
   ·exact⟨_,Y.pick [] rfl,rfl,T⟩
   ·obtain⟨Iv,m,T0,T1⟩:=T;obtain⟨B_2,hB_2,YB⟩:=Y.cut [] [0,1] rfl;obtain⟨JJ,hJJ⟩:∃JJ:Nat->LP,JJ=(fun k_2 lz h'=>∃(i:Int),lz=[QM i]/\Sy h [] h' ([]++B_2)/\Iv i/\m i=k_2):=⟨_,rfl⟩;refine⟨fun lz h'=>∃k_2,JJ k_2 lz h',Lm JJ,?_,?_⟩
    ·subst hJJ hB_2;exact⟨_,_,rfl,YB,T0,rfl⟩
    ·clear YB T0 Y;intro i hv3 hI;obtain⟨k_2,hI,hm⟩:=gd hI;subst hJJ hB_2;obtain⟨i,e,Y,T,rfl⟩:=hI;cases e;replace T:=T1 i T;have Y:Sy _ _ _ [_,_]:=Y;refine ag T (fun T=>?_) (fun T=>?_)
     ·obtain⟨Iv2,m2,T0,T1⟩:=T;obtain⟨B_3,hB_3,YB⟩:=Y.cut [] [0,1] rfl;obtain⟨JJ_2,hJJ_2⟩:∃JJ_2:Nat->LP,JJ_2=(fun k_3 lz h'=>∃(k:Int),lz=[QM k]/\Sy h [] h' ([]++B_3)/\Iv2 k/\m2 k=k_3):=⟨_,rfl⟩;refine⟨fun lz h'=>∃k_3,JJ_2 k_3 lz h',Lm JJ_2,?_,?_⟩
      ·subst hJJ_2 hB_3;exact⟨_,_,rfl,YB,T0,rfl⟩
      ·clear YB T0 Y;intro k hv4 hI;obtain⟨k_3,hI,hm_2⟩:=gd hI;subst hJJ_2 hB_3;obtain⟨k,e,Y,T,rfl⟩:=hI;cases e;replace T:=T1 k T;have Y:Sy _ _ _ [_,_]:=Y;refine ag T (fun T=>?_) (fun T=>?_)
       ·have Y0:=Y;have F:Fr [] hv4 hv4:=Fr.refl _ _;obtain⟨q,q_2,T⟩:=T;obtain⟨b_2,o_2,hb,hr,g_2,hx⟩:=Y0.atV 0 rfl q q_2;refine⟨b_2,o_2,hb,q,q_2,?_⟩;obtain⟨q_5,q_6,T⟩:=T;refine⟨q_5,q_6,?_⟩;replace T:=T g_2 hx;refine⟨_,uH (Y0.cellV 0 rfl hb (t:=0) hx rfl) (Y0.cellV 0 rfl hb (t:=1) hx rfl) (by assumption) (by assumption),?_⟩;refine ag T (fun T=>?_) (fun T=>?_)
        ·exact⟨_,Y.pick [] rfl,rfl,T⟩
        ·refine⟨b_2,o_2,hb,q,q_2,?_⟩;obtain⟨q_3,q_4,T⟩:=T;refine⟨q_3,q_4,?_⟩;refine⟨_,uH (Y0.cellV 0 rfl hb (t:=0) hx rfl) (Y0.cellV 0 rfl hb (t:=1) hx rfl) (by assumption) (by assumption),?_⟩;refine ag T (fun T=>?_) (fun T=>?_)
         ·exact⟨_,Y.pick [] rfl,rfl,T⟩
         ·exact cK hm_2 ⟨_,rfl,Y.pick [0,1] rfl,T.1,rfl⟩ T.2
       ·exact cK hm ⟨_,rfl,Y.pick [0,1] rfl,T.1,rfl⟩ T.2
     ·exact⟨_,Y.pick [] rfl,rfl,T⟩
def S44 (a:Int) (aA:QR) (aL aC:Nat) (b:Int) (bA:QR) (bL bC:Nat) (h:ab) (R:VP):Prop:=let m:ab:=h.push (.cells #[QM a,.slice aA aL aC] 24);let f:ab:=m.push (.cells #[QM b,.slice bA bL bC] 24);cnd (a != b) (R (.bool false) f) (cnd ((aL:Int) != (bL:Int)) (R (.bool false) f) (∃(e:LP) (g:List Value->ab->Nat),e [QM 0] f/\∀c:Int,∀d,e [QM c] d->cnd (decide (c<(aL:Int))) (∃b2 o,aA=some ⟨b2,o,none⟩/\0<=c/\c<(aL:Nat)/\∃i:Int,ac d b2 (o+(Int.toNat c)*2)=some (QM i)/\∃j:Int,ac d b2 ((o+(Int.toNat c)*2)+1)=some (QM j)/\∃b3 o2,bA=some ⟨b3,o2,none⟩/\0<=c/\c<(bL:Nat)/\∃k:Int,ac d b3 (o2+(Int.toNat c)*2)=some (QM k)/\∃l:Int,ac d b3 ((o2+(Int.toNat c)*2)+1)=some (QM l)/\cnd (!((i==k)&&(j==l))) (R (.bool false) d) (e [QM (i64.wrap (c+1))] d/\g [QM (i64.wrap (c+1))] d<g [QM c] d)) (R (.bool true) d)))
theorem Ht {h:ab} {R:VP} (a:Int) (aA:QR) (aL aC:Nat) (b:Int) (bA:QR) (bL bC:Nat) (H:S44 a aA aL aC b bA bL bC h R):QH 44 #[.agg #[QM a,.slice aA aL aC],.agg #[QM b,.slice bA bL bC]] h R:=aN [2,3] 38 [(0,⟨[2,3],[5],[2,3],[]⟩)] [] [] [(6,⟨11,false⟩)] Tryz.func44 QC QC H
def KD (a:Int) (edgesV:List (Int × Int)) (b:Int) (edgesV2:List (Int × Int)) (R:Bool->Prop):Prop:=
 ∀(h:ab) (aA:QR) (aL aC:Nat) (bA:QR) (bL bC:Nat),Hp h [Ck.vw eP aA aL aC edgesV,Ck.vw eP bA bL bC edgesV2]->QH 44 #[.agg #[QM a,.slice aA aL aC],.agg #[QM b,.slice bA bL bC]] h fun v h'=>∃(rV:Bool),Sy h [] h' []/\v= .bool rV/\R rV
def T44 (a:Int) (edgesV:List (Int × Int)) (b:Int) (edgesV2:List (Int × Int)) (R:Bool->Prop):Prop:=cnd (a != b) (R false) (cnd ((edgesV.length:Int) != (edgesV2.length:Int)) (R false) (∃(d:Int->Prop) (g:Int->Nat),d 0/\∀c:Int,d c->cnd (decide (c<(edgesV.length:Int))) (0<=c/\c<(edgesV.length:Int)/\∀e:(Int × Int),edgesV[(Int.toNat c)]? =some e->0<=c/\c<(edgesV2.length:Int)/\∀f:(Int × Int),edgesV2[(Int.toNat c)]? =some f->cnd (!((e.1==f.1)&&(e.2==f.2))) (R false) (d (i64.wrap (c+1))/\g (i64.wrap (c+1))<g c)) (R true)))
theorem Qm {a edgesV b edgesV2} {R:Bool->Prop} (T:T44 a edgesV b edgesV2 R):KD a edgesV b edgesV2 R:=by
 intro h aA aL aC bA bL bC H;have Y:Sy h [] h _:=Sy.startM H rfl;obtain rfl:=Y.lenV 0 rfl;obtain rfl:=Y.lenV 1 rfl;apply Ht;unfold S44;unfold T44 at T;intro hv;have Y:Sy _ _ hv [_,_,_]:=Y.junk _;clear_value hv;intro hv2;have Y:Sy _ _ hv2 [_,_,_,_]:=Y.junk _;clear_value hv2;refine ag T (fun T=>?_) (fun T=>?_)
 ·exact⟨_,Y.pick [] rfl,rfl,T⟩
 ·refine ag T (fun T=>?_) (fun T=>?_)
  ·exact⟨_,Y.pick [] rfl,rfl,T⟩
  ·obtain⟨Iv,m,T0,T1⟩:=T;obtain⟨B,hB,YB⟩:=Y.cut [] [0,1,2,3] rfl;obtain⟨JJ,hJJ⟩:∃JJ:Nat->LP,JJ=(fun k lz h'=>∃(i:Int),lz=[QM i]/\Sy h [] h' ([]++B)/\Iv i/\m i=k):=⟨_,rfl⟩;refine⟨fun lz h'=>∃k,JJ k lz h',Lm JJ,?_,?_⟩
   ·subst hJJ hB;exact⟨_,_,rfl,YB,T0,rfl⟩
   ·clear YB T0 Y;intro i hv3 hI;obtain⟨k,hI,hm⟩:=gd hI;subst hJJ hB;obtain⟨i,e,Y,T,rfl⟩:=hI;cases e;replace T:=T1 i T;have Y:Sy _ _ _ [_,_,_,_]:=Y;refine ag T (fun T=>?_) (fun T=>?_)
    ·have Y0:=Y;have F:Fr [] hv3 hv3:=Fr.refl _ _;obtain⟨q,q_2,T⟩:=T;obtain⟨b_2,o_2,hb,hr,a_2,hx⟩:=Y0.atV 0 rfl q q_2;refine⟨b_2,o_2,hb,q,q_2,?_⟩;replace T:=T a_2 hx;refine⟨_,Y0.cellV 0 rfl hb (t:=0) hx rfl,?_⟩;refine⟨_,Y0.cellV 0 rfl hb (t:=1) hx rfl,?_⟩;obtain⟨q_3,q_4,T⟩:=T;obtain⟨b_3,o_3,hb_2,hr_2,b_4,hx_2⟩:=Y0.atV 1 rfl q_3 q_4;refine⟨b_3,o_3,hb_2,q_3,q_4,?_⟩;replace T:=T b_4 hx_2;refine⟨_,Y0.cellV 1 rfl hb_2 (t:=0) hx_2 rfl,?_⟩;refine⟨_,Y0.cellV 1 rfl hb_2 (t:=1) hx_2 rfl,?_⟩;refine ag T (fun T=>?_) (fun T=>?_)
     ·exact⟨_,Y.pick [] rfl,rfl,T⟩
     ·exact cK hm ⟨_,rfl,Y.pick [0,1,2,3] rfl,T.1,rfl⟩ T.2
    ·exact⟨_,Y.pick [] rfl,rfl,T⟩
abbrev Es :=List (Int × Int)
def mf (g:Int) (e:Int × Int):Bool:=decide (0<=e.1)&&decide (e.1<g)&&decide (0<=e.2)&&decide (e.2<g)
def jq (g:Int) (es:Es):Bool:=decide (0<=g)&&decide (g<=1024)&&decide (es.length<=3072)&&es.all (mf g)
theorem kM {g:Int} {e:Int × Int}:mf g e=true ↔ (0<=e.1/\e.1<g)/\0<=e.2/\e.2<g:=by
 simp[mf];omega
theorem we {g:Int} {es:Es}:jq g es=true ↔ (0<=g/\g<=1024)/\es.length<=3072/\∀e∈es,mf g e=true:=by
 simp only[jq,Bool.and_eq_true,decide_eq_true_eq,List.all_eq_true]
 exact⟨fun⟨⟨⟨a,b⟩,c⟩,d⟩=>⟨⟨a,b⟩,c,d⟩,fun⟨⟨a,b⟩,c,d⟩=>⟨⟨⟨a,b⟩,c⟩,d⟩⟩
structure MayN (g:Int) (es:Es):Prop where
 g0:0<=g
 g1:g<=1024
 m:es.length<=3072
 e:∀(i:Nat) (x:Int × Int),es[i]? =some x->(0<=x.1/\x.1<g)/\0<=x.2/\x.2<g
theorem Jr {g:Int} {es:Es} (h:jq g es=true):MayN g es:=by
 obtain⟨⟨h1,h2⟩,h3,h4⟩:=we.1 h
 exact⟨h1,h2,h3,fun i x hx=>kM.1 (h4 x (List.mem_of_getElem? hx))⟩
theorem wg {g:Int} {es:Es} {i:Nat} {x:Int × Int} (hx:es[i]? =some x) (h:(es.take i).all (mf g)=true) (hb:mf g x=true):(es.take (i+1)).all (mf g)=true:=by
 rw[List.take_add_one,hx]
 simp only[List.all_append,h,Bool.true_and,Option.toList,List.all_cons,List.all_nil,Bool.and_true]
 exact hb
theorem uP {g:Int} {es:Es} {i:Nat} {x:Int × Int} (hx:es[i]? =some x) (hb:mf g x=false):jq g es=false:=by
 rw[<-Bool.not_eq_true]
 intro h
 have:=(we.1 h).2.2 x (List.mem_of_getElem? hx)
 rw[hb]at this;cases this
theorem Js {g:Int} {es:Es} {R:Bool->Prop} (h:R (jq g es)):KC g es R:=by
 apply Ql
 unfold T10
 have no:jq g es=false->R false:=fun e=>e▸h
 refine⟨jq g es=false,?_,no⟩
 refine af (fun h1=>by simp[jq];omega) fun h1=>af (fun h2=>by simp[jq];omega) fun h2=>af (fun h3=>no (by simp[jq];omega)) fun h3=>?_
 refine⟨fun i=>∃k:Nat,i=k/\k<=es.length/\(es.take k).all (mf g)=true,fun i=>((es.length:Int)-i).toNat,⟨0,rfl,Qz,QB⟩,?_⟩
 rintro _ ⟨k,rfl,hk,ha⟩
 refine af (fun hlt=>?_) fun hlt=>?_
 ·have hx:es[k]? =some (es[k]' Qz):=List.getElem?_eq_getElem Qz
  generalize es[k]' Qz=x at hx
  have small:∀j:Int,0<=j->j<2->(0<=kE x j/\kE x j<g)\/mf g x=false:=fun j _ _=>by
   by_cases hb:mf g x=true
   ·have:=kM.1 hb
    left;unfold kE;split<;>omega
   ·right;simpa using hb
  refine⟨fun j=>∃n:Nat,j=n/\n<=2/\∀m:Int,0<=m->m<n->0<=kE x m/\kE x m<g,fun j=>(2-j).toNat,⟨0,rfl,Qz,Qz⟩,?_⟩
  rintro _ ⟨n,rfl,hn,hall⟩
  refine af (fun hlt2=>⟨Qz,hlt,Qz,Qz,fun y hy=>?_⟩) fun hlt2=>?_
  ·have hy:es[k]? =some y:=by simpa using hy
   rw[hx]at hy;obtain rfl:=Option.some.inj hy
   refine af (fun h5=>no ?_) fun h5=>⟨Qz,Qz,af (fun h6=>no ?_) fun h6=>?_⟩
   ·rcases small n Qz hlt2 with q | q
    ·omega
    ·exact uP hx q
   ·rcases small n Qz hlt2 with q | q
    ·omega
    ·exact uP hx q
   ·rw[wr Qz Qz]
    refine⟨⟨n+1,QB,Qz,fun m h7 h8=>?_⟩,by dsimp only;omega⟩
    by_cases h9:m=n
    ·subst h9;omega
    ·exact hall m h7 Qz
  ·rw[wr Qz Qz]
   have hn2:n=2:=by omega
   subst hn2
   have q0:=hall 0 Qz Qz
   have q1:=hall 1 Qz Qz
   have hb:mf g x=true:=kM.2 (by simp[kE]at q0 q1;omega)
   exact⟨⟨k+1,QB,Qz,wg hx ha hb⟩,by dsimp only;omega⟩
 ·have hke:k=es.length:=by omega
  subst hke
  rw[List.take_length]at ha
  have:jq g es=true:=by
   simp only[jq,Bool.and_eq_true,decide_eq_true_eq];exact⟨⟨⟨Qz,Qz⟩,Qz⟩,ha⟩
  exact this▸h
theorem Mk {a b:Int} {j:Int} (h0:0<=j) (h2:j<2):(#[QM a,QM b]:Array Value)[Int.toNat j]? =some (QM (kE (a,b) j)):=by
 have:j=0\/j=1:=by omega
 rcases this with rfl | rfl<;>rfl
theorem Ml {g:Int} {es:Es} {R:Bool->Prop} (h:R (jq g es)):Kn g es R:=by
 apply Qh
 unfold T24
 have no:jq g es=false->R false:=fun e=>e▸h
 refine⟨jq g es=false,?_,no⟩
 refine af (fun h1=>by simp[jq];omega) fun h1=>af (fun h2=>by simp[jq];omega) fun h2=>af (fun h3=>no (by simp[jq];omega)) fun h3=>?_
 refine⟨fun i=>∃k:Nat,i=k/\k<=es.length/\(es.take k).all (mf g)=true,fun i=>((es.length:Int)-i).toNat,⟨0,rfl,Qz,QB⟩,?_⟩
 rintro _ ⟨k,rfl,hk,ha⟩
 refine af (fun hlt=>⟨Qz,hlt,fun x hx=>?_⟩) fun hlt=>?_
 ·have hx:es[k]? =some x:=by simpa using hx
  have small:∀j:Int,(0<=kE x j/\kE x j<g)\/mf g x=false:=fun j=>by
   by_cases hb:mf g x=true
   ·have:=kM.1 hb
    left;unfold kE;split<;>omega
   ·right;simpa using hb
  refine⟨fun j=>∃n:Nat,j=n/\n<=2/\∀m:Int,0<=m->m<n->0<=kE x m/\kE x m<g,fun j=>(2-j).toNat,⟨0,rfl,Qz,Qz⟩,?_⟩
  rintro _ ⟨n,rfl,hn,hall⟩
  refine af (fun hlt2=>⟨Qz,Qz,kE x n,Mk Qz hlt2,?_⟩) fun hlt2=>?_
  ·refine af (fun h5=>no ?_) fun h5=>af (fun h6=>no ?_) fun h6=>?_
   ·rcases small n with q | q
    ·omega
    ·exact uP hx q
   ·rcases small n with q | q
    ·omega
    ·exact uP hx q
   ·rw[wr Qz Qz]
    refine⟨⟨n+1,QB,Qz,fun m h7 h8=>?_⟩,by dsimp only;omega⟩
    by_cases h9:m=n
    ·subst h9;omega
    ·exact hall m h7 Qz
  ·rw[wr Qz Qz]
   have hn2:n=2:=by omega
   subst hn2
   have q0:=hall 0 Qz Qz
   have q1:=hall 1 Qz Qz
   have hb:mf g x=true:=kM.2 (by simp[kE]at q0 q1;omega)
   exact⟨⟨k+1,QB,Qz,wg hx ha hb⟩,by dsimp only;omega⟩
 ·have hke:k=es.length:=by omega
  subst hke
  rw[List.take_length]at ha
  have:jq g es=true:=by
   simp only[jq,Bool.and_eq_true,decide_eq_true_eq];exact⟨⟨⟨Qz,Qz⟩,Qz⟩,ha⟩
  exact this▸h
def Bd (s:ByteArray):Bool:=(s.data.toList.all fun c=>G.bO c.toNat)&&decide (s.size<=256)
theorem Mm {s:ByteArray} {R:Bool->Prop} (hs:s.size<=9223372036854775807) (r:R (Bd s)):N2 s R:=by
 intro h _
 exact(Py hs).mono fun v h' ⟨e1,e2⟩=>⟨_,by rw[e2];exact sy0 (Fr.refl _ _),e1,r⟩
def nt (a n:Int):Bool:=decide (a=0)||decide (a=n)
theorem yF {a n:Int} {R:Bool->Prop} (r:R (nt a n)):DI a n R:=by
 apply Qi
 unfold T25
 unfold nt at r
 refine aH (fun h=>?_) fun h=>?_
 ·rw[decide_eq_true h]at r;exact r
 ·rw[decide_eq_false h,Bool.false_or]at r
  have:(a==n)=decide (a=n):=by rw[Bool.eq_iff_iff];simp
  rw[this];exact r
def gv (n:Int) (es:Es) (ls:List ByteArray) (ss:List (Nat × Nat)) (ws:List Nat):Bool:=
 jq n es&&(nt (ls.length:Int) n&&(nt (ss.length:Int) n&&(nt (ws.length:Int) (es.length:Int)&&ls.all Bd)))
theorem Mn {n:Int} {es:Es} {dr:Bool} {ls:List ByteArray} {ss:List (Nat × Nat)} {ws:List Nat} {R:Bool->Prop} (hs:∀s∈ls,s.size<=9223372036854775807) (hl:ls.length<=9223372036854775807) (r:R (gv n es ls ss ws)):N3 n es dr ls ss ws R:=by
 apply Qj
 unfold T11
 have no:gv n es ls ss ws=false->R false:=fun e=>e▸r
 refine⟨gv n es ls ss ws=false,Ml (bo (fun q=>?_) fun q1=>yF (bo (fun q=>?_) fun q2=>yF (bo (fun q=>?_) fun q3=>yF (bo (fun q=>?_) fun q4=>?_)))),no⟩
 ·unfold gv;rw[q];rfl
 ·unfold gv;rw[q];simp
 ·unfold gv;rw[q];simp
 ·refine no ?_
  unfold gv;rw[q];simp
 ·refine⟨fun i=>∃k:Nat,i=k/\k<=ls.length/\(ls.take k).all Bd=true,fun i=>((ls.length:Int)-i).toNat,⟨0,rfl,Qz,QB⟩,?_⟩
  rintro _ ⟨k,rfl,hk,ha⟩
  refine af (fun hlt=>⟨Qz,hlt,fun x hx=>Mm (hs x (List.mem_of_getElem? hx)) (bo (fun q=>no ?_) fun q=>?_)⟩) fun hlt=>?_
  ·have:ls.all Bd=false:=by
    rw[List.all_eq_false]
    exact⟨x,List.mem_of_getElem? hx,by simp[q]⟩
   unfold gv;rw[this];simp
  ·have hw:i64.wrap ((k:Int)+1)=((k+1:Nat):Int):=by rw[wr Qz Qz];omega
   rw[hw]
   refine⟨⟨k+1,rfl,Qz,?_⟩,by dsimp only;omega⟩
   have hx:ls[k]? =some x:=by simpa using hx
   rw[List.take_add_one,hx]
   simp only[List.all_append,ha,Bool.true_and,Option.toList,List.all_cons,List.all_nil,Bool.and_true]
   exact q
  ·have hke:k=ls.length:=by omega
   rw[hke,List.take_length]at ha
   have e:gv n es ls ss ws=true:=by
    unfold gv;rw[q1,q2,q3,q4,ha];rfl
   rw[e]at r;exact r
theorem sK (l:QS):(G.mkB l).data.toList=l:=by simp[G.mkB]
theorem bu (l:QS):(G.mkB l).size=l.length:=by simp[G.mkB,ByteArray.size]
def Hd (H:List Nat) (B:List Ck):Prop:=∀x∈H,∃j:Nat,B[j]? =some (Ck.junk x)
section
variable {b c d:Nat} {u:Bool} {A:QR} {l:QS} {h0 h:ab} {C B:List Ck} {H:List Nat} {K:Value->ab->Prop}
theorem Sq.sub {cs cs':List Ck} (Q:Sq h0 C h cs) (f:Nat->Nat) (hf:∀i j c e,cs'[i]? =some c->cs'[j]? =some e->f i=f j->i=j) (hg:∀k c,cs'[k]? =some c->cs[f k]? =some c):Sq h0 C h cs':=
 ⟨⟨Q.sy.fr,⟨fun k c hk=>Q.sy.hp.ok _ c (hg k c hk),fun i j c e hij hi hj=>Q.sy.hp.ap (f i) (f j) c e (fun q=>hij (hf i j c e hi hj q)) (hg i c hi) (hg j e hj)⟩,fun k c hk=>Q.sy.ow _ c (hg k c hk)⟩,fun x hx=>by
  obtain⟨k,c,h1,h2⟩:=bR.1 hx
  exact Q.ri x (bR.2 ⟨_,c,hg k c h1,h2⟩)⟩
theorem Sq.del {D:List Ck} {c:Ck} (Q:Sq h0 C h (D++[c]++B)):Sq h0 C h (D++B):=by
 refine Sq.sub Q (fun k=>if k<D.length then k else k+1) (fun i j _ _ _ _ e=>?_) fun k c hk=>?_
 ·try simp only at e
  split at e<;>split at e<;>omega
 ·try simp only
  split
  ·rename_i hl
   rw[List.getElem?_append_left hl]at hk
   rw[List.append_assoc,List.getElem?_append_left hl];exact hk
  ·rename_i hl
   rw[List.getElem?_append_right Qz]at hk
   rw[List.getElem?_append_right QF]
   simpa[show k+1-(D.length+1)=k-D.length by omega]using hk
theorem Sq.ins {D:List Ck} (Q:Sq h0 C h (D++B)) (ty:TypeId) (vs:List Value):Sq h0 C (h.push (.cells vs.toArray ty)) (D++[Ck.ob h.size ty vs]++B):=by
 have Q1:Sq h0 C (h.push (.cells vs.toArray ty)) (D++B++[Ck.ob h.size ty vs]):=⟨Sy.newO Q.sy vs,fun x hx=>Q.ri x (by simpa[rds,Ck.ob]using hx)⟩
 refine Sq.sub Q1 (fun k=>if k<D.length then k else if k=D.length then D.length+B.length else k-1) (fun i j c e hi hj q=>?_) fun k c hk=>?_
 ·have li:=(List.getElem?_eq_some_iff.1 hi).1
  have lj:=(List.getElem?_eq_some_iff.1 hj).1
  simp only[List.length_append,List.length_singleton]at li lj
  try simp only at q
  split at q<;>split at q<;>(try split at q)<;>(try split at q)<;>omega
 ·have li:=(List.getElem?_eq_some_iff.1 hk).1
  simp only[List.length_append,List.length_singleton]at li
  try simp only
  split
  ·rename_i hl
   rw[List.append_assoc,List.getElem?_append_left hl]at hk
   rw[List.append_assoc,List.getElem?_append_left hl];exact hk
  ·split
   ·rename_i hl
    subst hl
    rw[List.append_assoc,List.getElem?_append_right (Nat.le_refl _)]at hk
    rw[List.getElem?_append_right QB]
    simpa using hk
   ·rename_i hl1 hl2
    rw[List.getElem?_append_right QF]at hk
    rw[List.append_assoc,List.getElem?_append_right Qz,List.getElem?_append_left (by simp at hk;omega)]
    simpa[show k-(D.length+1)=k-1-D.length by omega]using hk
theorem Hd.apart {D:List Ck} (hd:Hd H B) (Q:Sq h0 C h (D++B)):∀x∈H,x<h.size/\x∉aF D:=by
 intro x hx
 obtain⟨j,hj⟩:=hd x hx
 have hj':=pw (A:=D) hj
 refine⟨(Ck.junk x |>.lt h (Q.sy.ok hj')).1 x (by simp[Ck.junk]),fun w=>?_⟩
 obtain⟨k,e,h1,h2⟩:=dm.1 w
 have:=(List.getElem?_eq_some_iff.1 h1).1
 exact(Q.sy.hp.ap k (D.length+j) e _ Qz (kJ h1) hj' x h2).1 (by simp[Ck.junk])
theorem Jt {gl:GL} {n:Nat} (g:Gl gl h) (hn:n<=1000000):QH 34 #[QM (n:Int)] h fun v h'=>v= .string (G.mkB (G.dec n))/\Fr [] h h':=by
 intro w hw
 subst hw
 refine(Go.Proofs.Tryz.strconv_Itoa (n:Int) Qz Qz w (Gl.tab g)).mono fun e w' ⟨e1,k,os,e2⟩=>⟨_,e1,?_,?_,?_⟩
 ·subst e2;exact⟨rfl,rfl,rfl,by simp[Sort.grow]⟩
 ·have:Lib.itoa (n:Int)=G.dec n:=by rw[G.Ce];unfold G.idt;rw[if_neg Qz];rfl
  rw[this];rfl
 ·subst e2;exact⟨by simp[Sort.grow],fun j hj _=>Sort.heap_grow_old _ _ hj⟩
end
end Go.Proofs.YtemphinmoihdaaaGreatDoor.N
