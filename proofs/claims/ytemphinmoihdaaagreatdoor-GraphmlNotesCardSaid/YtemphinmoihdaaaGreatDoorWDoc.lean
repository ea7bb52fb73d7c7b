/- A document that comes in: its four slices as views. Conditions: none. -/
import Derived.Test.YtemphinmoihdaaaGreatDoorWCard
import Derived.Test.YtemphinmoihdaaaGreatDoorWPre
import Derived.ChangeArms
set_option linter.unusedVariables false
set_option linter.unusedSimpArgs false
namespace Go.Proofs.YtemphinmoihdaaaGreatDoor.N
open Go.Proofs.YtemphinmoihdaaaGreatDoor
open Go.X Go.ChangeShapes Go.WideShapes Go.ChangeAt Go.RowKit Go.Deep
set_option maxRecDepth 100000
section
variable {H:Type} {enc:TypeId × Value->H} {W:World} {base b0:Nat} {r:Reach}
theorem qQ {n:Nat} {cs:List Value} {y:DataW H × List MemPlace} {t:TypeId} (ht:Tryz.prog.underlying t=some (.float .f64)) (h:DataW.trod enc Tryz.prog W base (fun _=>true) true n t cs=some y):∃x:Nat,cs=[.float .f64 x]/\x<18446744073709551616:=by
 cases n with
 | zero=>simp[DataW.trod]at h
 | succ n=>
  unfold DataW.trod at h
  rw[ht]at h
  split at h<;>simp_all
  rename_i k k2 b e
  subst e
  have:=h.1.2
  simpa[Lit.wf]using this
theorem Bz {n:Nat} {cs:List Value} {y:DataW H × List MemPlace} (h:DataW.trod enc Tryz.prog W base (fun _=>true) true n 68 cs=some y):∃x:Nat × Nat,cs=eFF.enc x/\x.1<18446744073709551616/\x.2<18446744073709551616:=by
 obtain⟨y0,y1,m,_,hl,t0,t1⟩:=trod_struct2 Tryz.underlying68 h
 have hc:Tryz.prog.cellsOf 66=1:=by kernel_rfl
 have h2:Tryz.prog.cellsOf 68=2:=by kernel_rfl
 rw[h2]at hl
 dsimp only at t0 t1
 rw[hc]at t0 t1
 match cs,hl with
 | [c0,c1],_=>
  simp at t0 t1
  obtain⟨a,ha,wa⟩:=qQ Tryz.underlying66 t0
  obtain⟨b,hb,wb⟩:=qQ Tryz.underlying66 t1
  simp at ha hb
  exact⟨(a,b),by simp[eFF,ha,hb],wa,wb⟩
theorem jX {t e:TypeId} {n:Nat} {c:Value} {y:DataW H × List MemPlace} (hs:Tryz.prog.underlying t=some (.slice e)) (h:DataW.trod enc Tryz.prog W base (fun _=>true) true n t [c]=some y):∃a l k,c= .slice a l k:=by
 rcases open_slice hs h with⟨e,_⟩ | ⟨x,l,c,_,_,_,_,e,_⟩
 ·simp at e;exact⟨_,_,_,e⟩
 ·simp at e;exact⟨_,_,_,e⟩
theorem Em {α:Type} {Q:α->Prop} {xs:List α} {d:DataW H} (h:xs.length=0\/∃el sp,d= .slice el sp/\el.length=xs.length/\∀(i:Nat) (x:α),xs[i]? =some x->∃dd,el[i]? =some dd/\Q x):∀x∈xs,Q x:=by
 intro x hx
 rcases h with h | ⟨el,sp,_,_,h⟩
 ·rw[List.eq_nil_of_length_eq_zero h]at hx;cases hx
 ·obtain⟨i,hi,rfl⟩:=List.mem_iff_getElem.1 hx
  obtain⟨_,_,q⟩:=h i xs[i] (List.getElem?_eq_getElem hi)
  exact q
structure DocIn (W:World) (v:Value) (m:MD) (u:MDs):Prop where
 v:v=m.v u
 eE:(Ck.vw eP u.aE u.nE u.cE m.es).ok W.heap
 eL:(Ck.vw eS u.aL u.nL u.cL m.ls).ok W.heap
 eS:(Ck.vw eFF u.aS u.nS u.cS m.ss).ok W.heap
 eW:(Ck.vw eF u.aW u.nW u.cW m.ws).ok W.heap
 ls:∀x∈m.ls,x.size<=9223372036854775807
 ss:∀p∈m.ss,p.1<18446744073709551616/\p.2<18446744073709551616
 ws:∀x∈m.ws,x<18446744073709551616
theorem Eo {v:Value} {d:DataW H} {p:List MemPlace} (hv:Value.okWide Tryz.prog W r b0 29 v) (h:DataW.Trod enc Tryz.prog W base (fun _=>true) true 29 v d p):∃m u,DocIn W v m u:=by
 obtain⟨cs,rfl,hcs⟩:=okWide_struct Tryz.underlying29 hv
 have hrow:Row.okWide Tryz.prog W r b0 29 cs:=by
  have hv':=hv
  simp only[Value.okWide,Tryz.underlying29]at hv'
  obtain⟨cs',e1,_,hr⟩:=hv'
  cases e1
  exact hr
 obtain⟨tys,q1,_,q2⟩:=hrow
 rw[show Tryz.prog.cellTypes Tryz.prog.depth 29=some [3,22,4,25,26,27] by kernel_rfl]at q1
 obtain rfl:=Option.some.inj q1
 rw[show Tryz.prog.cellsOf 29=6 by kernel_rfl]at hcs
 obtain⟨fuel,hf⟩:=h
 obtain⟨xs,n,_,_,hl,hlen,hfl⟩:=DataW.trod_struct Tryz.underlying29 hf
 obtain⟨l⟩:=cs
 match l,hcs with
 | [c0,c1,c2,c3,c4,c5],_=>
  have hcl:(Value.agg ⟨[c0,c1,c2,c3,c4,c5]⟩).cells.toList=[c0,c1,c2,c3,c4,c5]:=rfl
  rw[hcl]at hfl
  match xs,hlen with
  | [y0,y1,y2,y3,y4],_=>
   have t0:DataW.trod enc Tryz.prog W base (fun _=>true) true n 24 (([c0,c1,c2,c3,c4,c5].drop 0).take (Tryz.prog.cellsOf 24))=some y0:=hfl 0 _ rfl
   have t1:DataW.trod enc Tryz.prog W base (fun _=>true) true n 4 (([c0,c1,c2,c3,c4,c5].drop 2).take (Tryz.prog.cellsOf 4))=some y1:=hfl 1 _ rfl
   have t2:DataW.trod enc Tryz.prog W base (fun _=>true) true n 25 (([c0,c1,c2,c3,c4,c5].drop 3).take (Tryz.prog.cellsOf 25))=some y2:=hfl 2 _ rfl
   have t3:DataW.trod enc Tryz.prog W base (fun _=>true) true n 26 (([c0,c1,c2,c3,c4,c5].drop 4).take (Tryz.prog.cellsOf 26))=some y3:=hfl 3 _ rfl
   have t4:DataW.trod enc Tryz.prog W base (fun _=>true) true n 27 (([c0,c1,c2,c3,c4,c5].drop 5).take (Tryz.prog.cellsOf 27))=some y4:=hfl 4 _ rfl
   rw[show Tryz.prog.cellsOf 24=2 by kernel_rfl]at t0
   rw[show Tryz.prog.cellsOf 4=1 by kernel_rfl]at t1
   rw[show Tryz.prog.cellsOf 25=1 by kernel_rfl]at t2
   rw[show Tryz.prog.cellsOf 26=1 by kernel_rfl]at t3
   rw[show Tryz.prog.cellsOf 27=1 by kernel_rfl]at t4
   simp at t0 t1 t2 t3 t4
   obtain⟨z0,z1,k,_,_,s0,s1⟩:=trod_struct2 Tryz.underlying24 t0
   dsimp only at s0 s1
   rw[show Tryz.prog.cellsOf 3=1 by kernel_rfl]at s0
   rw[show Tryz.prog.cellsOf 22=1 by kernel_rfl]at s1
   simp at s0 s1
   obtain⟨n,hm,_⟩:=DataW.trod_int Tryz.underlying3 s0
   simp at hm
   subst hm
   obtain⟨aE,nE,cE,rfl⟩:=jX Tryz.underlying22 s1
   obtain⟨aL,nL,cL,rfl⟩:=jX Tryz.underlying25 t2
   obtain⟨aS,nS,cS,rfl⟩:=jX Tryz.underlying26 t3
   obtain⟨aW,nW,cW,rfl⟩:=jX Tryz.underlying27 t4
   obtain⟨dr,rfl⟩:∃b,c2= .bool b:=by
    obtain⟨b,hb,_⟩:=DataW.trod_bool Tryz.underlying4 t1
    simp at hb;exact⟨b,hb⟩
   have sp:∀(k:Nat) (t e:TypeId) (a:QR) (l c:Nat),Tryz.prog.underlying t=some (.slice e)-> [3,22,4,25,26,27][k]? =some t->(#[Value.int .i64 n,.slice aE nE cE,.bool dr,.slice aL nL cL,.slice aS nS cS,.slice aW nW cW]:Array Value)[k]? =some (.slice a l c)->k<6->∀x,a=some x->x.spot=none:=by
    rintro k t e a l c ht hk hv hk6 x rfl
    obtain⟨u,q3,q4⟩:=q2 k _ hv
    rw[Nat.mod_eq_of_lt (by simpa using hk6),hk]at q3
    obtain rfl:=Option.some.inj q3
    exact AX ht q4
   obtain⟨es,hes,_⟩:=IB eP (enc:=enc) (base:=base) Tryz.underlying22 QC (sp 1 22 71 _ _ _ Tryz.underlying22 rfl rfl QA) (fun n cs y=>IC Tryz.underlying71 Tryz.underlying3 QC QC) ⟨_,s1⟩
   obtain⟨ls,hls,hl2⟩:=rE (enc:=enc) (base:=base) Tryz.underlying25 Tryz.underlying9 QC (sp 3 25 9 _ _ _ Tryz.underlying25 rfl rfl QA) ⟨_,t2⟩
   obtain⟨ss,hss,hs2⟩:=rB (fun(x:Nat × Nat) _=>x.1<18446744073709551616/\x.2<18446744073709551616) eFF (enc:=enc) (base:=base) Tryz.underlying26 QC (sp 4 26 68 _ _ _ Tryz.underlying26 rfl rfl QA) (fun n cs y h=>Bz h) ⟨_,t3⟩
   obtain⟨ws,hws,hw2⟩:=rB (fun(x:Nat) _=>x<18446744073709551616) eF (enc:=enc) (base:=base) Tryz.underlying27 QC (sp 5 27 66 _ _ _ Tryz.underlying27 rfl rfl QA) (fun n cs y h=>qQ Tryz.underlying66 h) ⟨_,t4⟩
   exact⟨⟨n,dr,es,ls,ss,ws⟩,⟨aE,nE,cE,aL,nL,cL,aS,nS,cS,aW,nW,cW⟩,rfl,hes,hls,hss,hws,hl2,Em hs2,Em hw2⟩
end
end Go.Proofs.YtemphinmoihdaaaGreatDoor.N
