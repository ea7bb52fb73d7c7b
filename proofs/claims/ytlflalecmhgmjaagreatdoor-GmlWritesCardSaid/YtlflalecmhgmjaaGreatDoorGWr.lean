/- The program's tokens and values of GML, by the plain reader. Conditions: what a number's text reads as. -/
import Derived.Test.YtlflalecmhgmjaaGreatDoorHQuo
import Derived.Test.YtlflalecmhgmjaaGreatDoorSRd
import Derived.Lib.ConvBytes
import Derived.Lib.ParseIntBTie
import Derived.Test.YtlflalecmhgmjaaGreatDoorWEnv
import Derived.Test.YtlflalecmhgmjaaGreatDoorYGl
import Derived.Test.YtlflalecmhgmjaaGreatDoorGBack
import Derived.Tactics
import Derived.Tactics2
import Derived.Laws.Pointers
set_option linter.unusedVariables false
set_option linter.unusedSimpArgs false
open Go.IntKind (i64 u64 u8 i32)
namespace Go.Proofs.YtlflalecmhgmjaaGreatDoor.N
open Go.Proofs.YtlflalecmhgmjaaGreatDoor
open Go.X
set_option maxRecDepth 100000
def iC (s:ByteArray) (p:Nat):G.Er (G.Tok × Nat):=
 if p>=s.size then .ok (⟨0,p,G.noB,0⟩,p)
 else if G.bt s p=91 then .ok (⟨1,p,G.noB,0⟩,p+1)
 else if G.bt s p=93 then .ok (⟨2,p,G.noB,0⟩,p+1)
 else if G.bt s p=34 then(G.str s p (p+1) []).bind fun(l,j)=>.ok (⟨5,p,G.mkB l,0⟩,j)
 else if G.fD (G.bt s p)=true then .ok (⟨3,p,s.extract p (G.run G.cx s p),0⟩,G.run G.cx s p)
 else if G.cJ (G.bt s p)=true\/G.bt s p=43\/G.bt s p=45\/G.bt s p=46 then .ok (⟨4,p,s.extract p (G.run G.bU s p),0⟩,G.run G.bU s p)
 else .no (p,15)
theorem tC (s:ByteArray) (i:Nat):G.next s i=iC s (G.skp s i):=rfl
def AI (t:G.Tok):List Value:=[.int .i64 (t.kind:Int),.int .i64 (t.at_:Int),.string t.says,.float .f64 t.num]
theorem wF {h:ab} {b i:Nat} {s:ByteArray} (L:Lx h b s i) (hi:i<=s.size) (hs:s.size<=262144):
  az Tryz.prog 149 #[.pointer (some ⟨b,0,none⟩)] h (fun v h'=>∃t j,G.next s i= .ok (t,j)/\v=cm t/\Mv b h h' j) (fun v h'=>∃f,G.next s i= .no f/\v=flt f/\Fr [b] h h'):=by
 apply xo
 unfold Gx
 rw[tC]
 obtain⟨hp1,hp2⟩:=G.vY s _ i (Nat.le_refl _) hi
 intro hv
 have bl:=L.lt
 have M1:Mv b h hv i:=(Mv.refl L).push _
 have e1:hv.size=h.size+1:=by simp[hv]
 clear_value hv
 have L1:=L.mv M1
 refine ai [b] (FF L1 hi hs) (by simp;omega) (fun _ _ r=>r.2.fr) fun v hv2 r=>?_
 obtain⟨rfl,M2⟩:=r
 generalize G.skp s i=p at hp1 hp2 M2
 have s12:hv.size<=hv2.size:=M2.fr.size
 have M2:=M1.trans M2
 have L2:=L.mv M2
 refine⟨rfl,b,0,rfl,_,L2.c1,?_⟩
 intro hv3 hv4
 have M4:Mv b h hv4 p:=((((M2.push _).hsetn (by omega)).hsetn (by omega)).hsetn (by omega)).hsetn (by omega)
 have e4:hv4.size=hv2.size+1:=by simp[hv4,hv3]
 clear_value hv4
 clear hv3
 have L4:=L.mv M4
 have fin:∀(t:G.Tok) (j:Nat) (hv29:ab),iC s p= .ok (t,j)->Mv b h hv29 j->
   ∃t' j',iC s p= .ok (t',j')/\Value.agg #[.int .i64 (t.kind:Int),.int .i64 (t.at_:Int),.string t.says,.float .f64 t.num]=cm t'/\
    Mv b h (ak (ak (ak (ak hv29 h.size 0 (.int .i64 (t.kind:Int))) h.size (0+1) (.int .i64 (t.at_:Int))) h.size ((0+1)+1) (.string t.says)) h.size (((0+1)+1)+1) (.float .f64 t.num)) j':=
  fun t j hv29 q M=>⟨t,j,q,rfl,(((M.hsetn (Nat.le_refl _)).hsetn (Nat.le_refl _)).hsetn (Nat.le_refl _)).hsetn (Nat.le_refl _)⟩
 refine⟨b,0,rfl,_,L4.c1,b,0,rfl,_,L4.c0,au (fun q=>?_) fun q=>?_⟩
 ·exact fin ⟨0,p,G.noB,0⟩ p hv4 (by unfold iC;grind) M4
 ·have hlt:p<s.size:=by omega
  obtain⟨c,hc,hb⟩:=get_at hlt
  have hnx:iC s p=(if c.toNat=91 then .ok (⟨1,p,G.noB,0⟩,p+1)
    else if c.toNat=93 then .ok (⟨2,p,G.noB,0⟩,p+1)
    else if c.toNat=34 then(G.str s p (p+1) []).bind fun(l,j)=>.ok (⟨5,p,G.mkB l,0⟩,j)
    else if G.fD c.toNat=true then .ok (⟨3,p,s.extract p (G.run G.cx s p),0⟩,G.run G.cx s p)
    else if G.cJ c.toNat=true\/c.toNat=43\/c.toNat=45\/c.toNat=46 then .ok (⟨4,p,s.extract p (G.run G.bU s p),0⟩,G.run G.bU s p)
    else .no (p,15)):=by
   unfold iC
   grind
  refine⟨b,0,rfl,_,L4.c0,b,0,rfl,_,L4.c1,by omega,by omega,c,by grind,?_⟩
  let J:List Value->ab->Prop:=fun l h'=>∃t j,l=AI t/\iC s p= .ok (t,j)/\Mv b h h' j
  have out:∀{k a:Int} {x:ByteArray} {f:Nat} {hv29:ab},J [.int .i64 k,.int .i64 a,.string x,.float .f64 f] hv29->
    ∃t' j',iC s p= .ok (t',j')/\Value.agg #[.int .i64 k,.int .i64 a,.string x,.float .f64 f]=cm t'/\
    Mv b h (ak (ak (ak (ak hv29 h.size 0 (.int .i64 k)) h.size (0+1) (.int .i64 a)) h.size ((0+1)+1) (.string x)) h.size (((0+1)+1)+1) (.float .f64 f)) j':=by
   rintro k a x f hv29 ⟨t,j,e,q,M⟩
   cases e
   grind
  have H2:∀x∈([hv2.size,h.size]:List Nat),x∉([b]:List Nat):=by simp;omega
  have H0:∀x∈([hv2.size,h.size]:List Nat),x∉([]:List Nat):=by simp
  refine⟨J,?_,fun k a x f hv29 q=>out q⟩
  refine au (fun q1=>?_) fun q1=>?_
  ·rw[if_pos (by omega)]at hnx
   intro hv6
   have M6:Mv b h hv6 p:=M4.hsetn (by omega)
   clear_value hv6
   have L6:=L.mv M6
   refine⟨b,0,rfl,_,L6.c1,b,0,rfl,by omega,by omega,L6.cell,L6.fr,?_⟩
   rw[wrN (by omega)]
   exact⟨_,_,rfl,hnx,M6.trans (Mv.to L6 (p+1))⟩
  rw[if_neg (by omega)]at hnx
  refine⟨J,?_,fun k a x f hv29 q=>q⟩
  refine au (fun q2=>?_) fun q2=>?_
  ·rw[if_pos (by omega)]at hnx
   intro hv6
   have M6:Mv b h hv6 p:=M4.hsetn (by omega)
   clear_value hv6
   have L6:=L.mv M6
   refine⟨b,0,rfl,_,L6.c1,b,0,rfl,by omega,by omega,L6.cell,L6.fr,?_⟩
   rw[wrN (by omega)]
   exact⟨_,_,rfl,hnx,M6.trans (Mv.to L6 (p+1))⟩
  rw[if_neg (by omega)]at hnx
  refine⟨J,?_,fun k a x f hv29 q=>q⟩
  refine au (fun q3=>?_) fun q3=>?_
  ·rw[if_pos (by omega)]at hnx
   refine aH [b] (FI L4 hlt hs) H2 (fun v h' r=>?_) (fun v h' r=>?_) (fun v h' r=>?_) fun v h' r=>?_
   ·obtain⟨_,_,_,_,r⟩:=r;exact r.fr
   ·grind
   ·obtain⟨l,j,e,rfl,M⟩:=r
    refine⟨_,rfl,?_⟩
    rw[e]at hnx
    exact⟨⟨5,p,G.mkB l,0⟩,j,rfl,hnx,((M4.trans M).hsetn (by omega)).hsetn (by omega)⟩
   ·obtain⟨f,e,rfl,M⟩:=r
    rw[e]at hnx
    exact⟨f,hnx,rfl,M4.fr.trans M⟩
  rw[if_neg (by omega)]at hnx
  refine ct wx ⟨_,rfl,?_⟩
  refine⟨J,?_,fun k a x f hv29 q=>q⟩
  refine aV (fun q4=>?_) fun q4=>?_
  ·rw[if_pos q4]at hnx
   intro hv14
   have M14:Mv b h hv14 p:=M4.hsetn (by omega)
   clear_value hv14
   have L14:=L.mv M14
   refine ai [b] (CG (fun n h=>FD) rfl L14 hp2 hs) H2 (fun _ _ r=>r.2.fr) fun v hv15 r=>?_
   obtain⟨rfl,M⟩:=r
   exact⟨_,rfl,_,_,rfl,hnx,(M14.trans M).hsetn (by omega)⟩
  rw[if_neg (by rw[q4];simp)]at hnx
  have num:iC s p= .ok (⟨4,p,s.extract p (G.run G.bU s p),0⟩,G.run G.bU s p)->
    (let hv18:ab:=ak hv4 hv2.size 0 (.int .i64 4)
     ah Tryz.prog 204 #[.pointer (some ⟨b,0,none⟩),.func (.func 207) #[] #[]] hv18 [hv2.size,h.size] fun v6 hv19=>
     ∃r5:ByteArray,v6= .string r5/\
     let hv20:ab:=ak hv19 hv2.size 2 (.string r5)
     J [.int .i64 4,.int .i64 p,.string r5,.float .f64 0] hv20):=by
   intro hnx hv18
   have M14:Mv b h hv18 p:=M4.hsetn (by omega)
   clear_value hv18
   have L14:=L.mv M14
   refine ai [b] (CG (fun n h=>FE) rfl L14 hp2 hs) H2 (fun _ _ r=>r.2.fr) fun v hv15 r=>?_
   obtain⟨rfl,M⟩:=r
   exact⟨_,rfl,_,_,rfl,hnx,(M14.trans M).hsetn (by omega)⟩
  refine ct tB ⟨_,rfl,?_⟩
  refine aV (fun q5=>?_) fun q5=>?_
  ·grind
  refine au (fun q6=>?_) fun q6=>?_
  ·grind
  refine au (fun q7=>?_) fun q7=>?_
  ·grind
  refine⟨J,?_,fun k a x f hv29 q=>q⟩
  refine au (fun q8=>?_) fun q8=>?_
  ·grind
  ·rw[if_neg (by grind)]at hnx
   refine⟨b,0,rfl,_,L4.c1,?_⟩
   exact gM ⟨_,hnx,rfl,M4.fr⟩
theorem _root_.Go.X.Gl.fr {gl:GL} {h h':ab} {M:List Nat} (g:Gl gl h) (f:Fr M h h') (hm:∀b∈glB gl,b∉M):Gl gl h':=g.congr fun b hb=>f.blk b (g.lt b hb) (hm b hb)
def pX (rd:ByteArray->Option (Nat × Nat)) (gl:GL):Prop:=
 ∀(t:ByteArray) (x e:Nat),rd t=some (x,e)->∀h,Gl gl h->af Tryz.prog 260 #[.string t] h fun v h'=>v= .tuple #[.float .f64 x,.int .i64 (e:Int)]/\Fr [] h h'
theorem _root_.Go.X.Fr.hsetL {h h1:ab} {M:List Nat} (f:Fr M h h1) {p o:Nat} {v:Value} (hp:h.size<=p):Fr M h (ak h1 p o v):=f.hsetr (.inl hp)
theorem cn {a b:ByteArray}:(a.toList==b.toList)=decide (a.data.toList=b.data.toList):=by
 grind [Lib.toList_data]
theorem FG {rd:ByteArray->Option (Nat × Nat)} {gl:GL} (hr:pX rd gl) {t:G.Tok} {h:ab} (g:Gl gl h) (hu:G.bs rd t≠ .un):
  az Tryz.prog 208 #[cm t] h (fun v h'=>∃t',G.bs rd t= .ok t'/\v=cm t'/\Fr [] h h') (fun v h'=>∃f,G.bs rd t= .no f/\v=flt f/\Fr [] h h'):=by
 unfold cm
 apply xp
 unfold Gy
 intro hv hv2
 have f2:Fr [] h hv2:=(Fr.push h _).pushr _
 have e1:hv.size=h.size+1:=by simp[hv]
 have e2:hv2.size=h.size+2:=by simp[hv2,hv]
 clear_value hv2
 clear_value hv
 intro K
 have H:∀x∈([hv.size,h.size]:List Nat),x∉([]:List Nat):=by simp
 have fin:∀(t':G.Tok) (hv15:ab),G.bs rd t= .ok t'->Fr [] h hv15->
   ∃t'',G.bs rd t= .ok t''/\Value.agg #[.int .i64 (t'.kind:Int),.int .i64 (t'.at_:Int),.string t'.says,.float .f64 t'.num]=cm t''/\
    Fr [] h (ak (ak (ak (ak hv15 hv.size 0 (.int .i64 (t'.kind:Int))) hv.size (0+1) (.int .i64 (t'.at_:Int))) hv.size ((0+1)+1) (.string t'.says)) hv.size (((0+1)+1)+1) (.float .f64 t'.num)):=
  fun t' hv15 q f=>⟨t',q,rfl,(((f.hsetL (by omega)).hsetL (by omega)).hsetL (by omega)).hsetL (by omega)⟩
 let J:List Value->ab->Prop:=fun l h'=>∃t',l=AI t'/\G.bs rd t= .ok t'/\Fr [] h h'
 have out:∀{k a:Int} {x:ByteArray} {f:Nat} {hv15:ab},J [.int .i64 k,.int .i64 a,.string x,.float .f64 f] hv15->
   ∃t'',G.bs rd t= .ok t''/\Value.agg #[.int .i64 k,.int .i64 a,.string x,.float .f64 f]=cm t''/\
    Fr [] h (ak (ak (ak (ak hv15 hv.size 0 (.int .i64 k)) hv.size (0+1) (.int .i64 a)) hv.size ((0+1)+1) (.string x)) hv.size (((0+1)+1)+1) (.float .f64 f)):=by
  rintro k a x f hv15 ⟨t',e,q,f'⟩
  cases e
  grind
 have bad:(t.kind=0\/t.kind=2)->K true hv2:=by
  intro q
  refine aO rfl ?_
  refine gM ⟨_,?_,rfl,f2⟩
  unfold G.bs
  rw[if_pos q]
 have good:¬(t.kind=0\/t.kind=2)->K false hv2:=by
  intro q
  have hv0:G.bs rd t=(if t.kind=3 then
    if t.l=G.rK\/t.l=G.rM then
     match rd t.says with
     | some (x,_)=>.ok {t with kind:=4,num:=x}
     | none=>.un
    else .no (t.at_,16)
   else if t.kind=4 then
    match rd t.says with
    | some (x,0)=>.ok {t with num:=x}
    | some (_,e+1)=>.no (t.at_,e+1)
    | none=>.un
   else .ok t):=by
   unfold G.bs
   grind
  refine aM rfl ?_
  refine⟨J,?_,fun k a x f hv15 q=>out q⟩
  refine au (fun q3=>?_) fun q3=>?_
  ·rw[if_pos (by omega)]at hv0
   intro K2
   have k2:(t.l=G.rK\/t.l=G.rM)->K2 hv2:=by
    intro q4
    rw[if_pos q4]at hv0
    dsimp-zeta only[K2]
    intro hv8
    have f8:Fr [] h hv8:=f2.hsetL (by omega)
    clear_value hv8
    cases hrd:rd t.says with
    | none=>grind
    | some y=>
     obtain⟨x,e⟩:=y
     rw[hrd]at hv0
     refine ai [] (hr t.says x e hrd hv8 (g.fr f8 (by simp))) H (fun _ _ r=>r.2) fun v hv9 r=>?_
     obtain⟨rfl,f9⟩:=r
     exact⟨x,(e:Int),rfl,{t with kind:=4,num:=x},rfl,hv0,(f8.trans f9).hsetL (Nat.le_refl _)⟩
   rw[cn,cn]
   have en:(t.says.data.toList=(⟨#[78,97,78]⟩:ByteArray).data.toList)=(t.l=G.rK):=rfl
   have ei:(t.says.data.toList=(⟨#[73,78,70]⟩:ByteArray).data.toList)=(t.l=G.rM):=rfl
   refine ag (fun q4=>?_) fun q4=>?_
   ·refine av (fun _=>⟨rfl,k2 (.inl q4)⟩) fun q=>absurd q (by decide)
   ·refine av (fun q5=>⟨rfl,k2 (.inr (of_decide_eq_true q5))⟩) fun q5=>?_
    grind
  rw[if_neg (by omega)]at hv0
  refine⟨J,?_,fun k a x f hv14 q=>q⟩
  refine au (fun q4=>?_) fun q4=>?_
  ·rw[if_pos (by omega)]at hv0
   cases hrd:rd t.says with
   | none=>grind
   | some y=>
    obtain⟨x,e⟩:=y
    rw[hrd]at hv0
    refine ai [] (hr t.says x e hrd hv2 (g.fr f2 (by simp))) H (fun _ _ r=>r.2) fun v hv11 r=>?_
    obtain⟨rfl,f11⟩:=r
    refine⟨x,(e:Int),rfl,?_⟩
    refine av (fun q5=>⟨rfl,?_⟩) fun q5=>?_
    ·obtain rfl:e=0:=by simpa using q5
     exact⟨{t with num:=x},rfl,hv0,(f2.trans f11).hsetL (Nat.le_refl _)⟩
    ·obtain⟨e',rfl⟩:∃e',e=e'+1:=by
      cases e<;>grind
     exact⟨_,hv0,rfl,f2.trans f11⟩
  ·rw[if_neg (by omega)]at hv0
   exact⟨t,rfl,hv0,f2⟩
 refine au (fun q=>?_) fun q=>?_
 ·grind
 ·by_cases q2:t.kind=2
  ·simp_all
  ·have e:((t.kind:Int)==(2:Int))=false:=by simp;omega
   grind
open Go.RowKit (Below)
theorem Gl.tab {gl:GL} {w:World} (g:Gl gl w.heap):Lib.TabIs Tryz.prog w "internal/strconv.uint64pow10" .u64 Lib.pow10Tab:=by
 obtain⟨e,f,q⟩:=g.uu
 have hg:Tryz.prog.globalNamed "internal/strconv.uint64pow10" =some 2:=by kernel_rfl
 unfold Lib.TabIs World.var?
 rw[hg]
 show(match w.heap[2]? with | some (.cells cs _ _)=>some cs | _=>none)=_
 rw[q]
 rfl
theorem FT {gl:GL} {n:Int} {h:ab} (g:Gl gl h) (h0: -9223372036854775808<=n) (h1:n<=9223372036854775807):af Tryz.prog 155 #[.int .i64 n,.int .i64 10] h fun v h'=>v= .string ⟨(Lib.itoa n).toArray⟩/\Fr [] h h':=by
 intro w hw
 subst hw
 refine(Go.Proofs.Tryz.strconv_FormatInt_10 n h0 h1 w (Gl.tab g)).mono fun e w' ⟨e1,k,os,e2⟩=>⟨_,e1,?_,rfl,?_⟩
 ·subst e2;exact⟨rfl,rfl,rfl,by simp[Sort.grow]⟩
 ·subst e2;exact⟨by simp[Sort.grow],fun j hj _=>Sort.heap_grow_old _ _ hj⟩
theorem FU {gl:GL} {s:ByteArray} {h:ab} (g:Gl gl h) (hs:s.size<=262144):af Tryz.prog 154 #[.string s,.int .i64 10,.int .i64 64] h fun v h'=>
  ((∃n,Lib.parseIntB 64 s.data.toList= .ok n/\v= .tuple #[.int .i64 n,.nilIface])\/((∀n,Lib.parseIntB 64 s.data.toList≠ .ok n)/\∃n t x,v= .tuple #[.int .i64 n,.iface t x]))/\Fr [] h h':=by
 intro w hw
 subst hw
 cases q:Lib.parseIntB 64 s.data.toList with
 | ok n=>
  refine(Go.Proofs.Tryz.strconv_ParseInt_10_at64_ok s (by omega) n q w).mono fun e w' ⟨e1,e2⟩=>⟨_,e1,?_,.inl ⟨n,rfl,rfl⟩,?_⟩
  ·rcases e2 with rfl | ⟨t,rfl⟩
   ·exact Rest.refl _
   ·exact eV (⟨rfl,rfl,rfl,by rw[Lib.bytesWorld_size];omega,fun k hk=>Lib.bytesWorld_at_old w _ _ k hk⟩)
  ·rcases e2 with rfl | ⟨t,rfl⟩
   ·exact Fr.refl _ _
   ·exact gJ (⟨rfl,rfl,rfl,by rw[Lib.bytesWorld_size];omega,fun k hk=>Lib.bytesWorld_at_old w _ _ k hk⟩)
 | range=>
  obtain⟨te,pe,hc⟩:=g.e2
  exact(Go.Proofs.Tryz.strconv_ParseInt_10_at64_range s (by omega) q (.iface te pe) w ((ba _ _ _).trans hc) (.inr ⟨te,pe,rfl⟩)).mono fun e w' ⟨N,q1,q2,q3,q4⟩=>⟨_,q1,eV q4,.inr ⟨(by intro n h;cases h),_,_,_,rfl⟩,gJ q4⟩
 | _=>
  obtain⟨te,pe,hc⟩:=g.e1
  exact(Go.Proofs.Tryz.strconv_ParseInt_10_at64_syntax s (by omega) q (.iface te pe) w ((ba _ _ _).trans hc) (.inr ⟨te,pe,rfl⟩)).mono fun e w' ⟨N,q1,q2,q3,q4⟩=>⟨_,q1,eV q4,.inr ⟨(by intro n h;cases h),_,_,_,rfl⟩,gJ q4⟩
theorem wR {gl:GL} {t:G.Tok} {h:ab} (g:Gl gl h) (hs:t.says.size<=262144):
  az Tryz.prog 112 #[cm t] h (fun v h'=>∃n,G.whole t.l=some n/\v= .int .i64 n/\Fr [] h h') (fun v h'=>G.whole t.l=none/\v=flt (t.at_,17)/\Fr [] h h'):=by
 unfold cm
 apply xq
 unfold Gz
 intro hv
 have f1:Fr [] h hv:=Fr.push h _
 have e1:hv.size=h.size+1:=by simp[hv]
 clear_value hv
 have H:∀x∈([h.size]:List Nat),x∉([]:List Nat):=by simp
 refine ai [] (FU (g.fr f1 (by simp)) hs) H (fun _ _ r=>r.2) fun v hv2 r=>?_
 obtain⟨r,f2⟩:=r
 have f2':=f1.trans f2
 rcases r with⟨n,q,rfl⟩ | ⟨q,n,te,x,rfl⟩
 ·refine⟨n,.inl ⟨rfl,?_⟩⟩
  intro K
  refine aO rfl ?_
  have hl:=G.wu q
  have hr:=Lib.parseIntB_bounds q
  simp at hr
  refine ai [] (FT (g.fr f2' (by simp)) (by omega) (by omega)) H (fun _ _ r=>r.2) fun v hv3 r=>?_
  obtain⟨rfl,f3⟩:=r
  refine⟨_,rfl,f3,?_⟩
  rw[cn]
  refine ag (fun q1=>?_) fun q1=>?_
  ·refine ag (fun q2=>?_) fun q2=>?_
   ·refine av (fun q3=>⟨rfl,f3,n,?_,rfl,f2'.trans f3⟩) fun q3=>⟨?_,rfl,f2'.trans f3⟩
    ·rw[if_pos ⟨by simpa using q1,q2,of_decide_eq_true q3⟩]at hl;exact hl
    ·rw[if_neg (fun z=>of_decide_eq_false q3 z.2.2)]at hl;exact hl
   ·refine av (fun q3=>absurd q3 (by decide)) fun q3=>⟨?_,rfl,f2'.trans f3⟩
    rw[if_neg (fun z=>q2 z.2.1)]at hl;exact hl
  ·refine av (fun q3=>absurd q3 (by decide)) fun q3=>⟨?_,rfl,f2'.trans f3⟩
   rw[if_neg (fun z=>q1 (by simpa using z.1))]at hl;exact hl
 ·refine⟨n,.inr ⟨te,x,rfl,?_⟩⟩
  intro K
  refine aM rfl ⟨Fr.refl _ _,?_⟩
  refine av (fun q3=>absurd q3 (by decide)) fun q3=>⟨G.uL q,rfl,f2'⟩
end Go.Proofs.YtlflalecmhgmjaaGreatDoor.N
namespace Go.X
def rds (cs:List Ck):List Nat:=cs.flatMap Ck.rd
theorem bW {cs:List Ck} {b:Nat}:b∈rds cs ↔ ∃(k:Nat) (c:Ck),cs[k]? =some c/\b∈c.rd:=by
 simp only[rds,List.mem_flatMap]
 exact⟨fun⟨c,h1,h2⟩=>let ⟨k,h3⟩:=List.mem_iff_getElem?.1 h1;⟨k,c,h3,h2⟩,fun⟨k,c,h1,h2⟩=>⟨c,List.mem_of_getElem? h1,h2⟩⟩
theorem bm {cs:List Ck} {b:Nat}:b∈ao cs ↔ ∃(k:Nat) (c:Ck),cs[k]? =some c/\b∈c.own:=by
 simp only[ao,List.mem_flatMap]
 exact⟨fun⟨c,h1,h2⟩=>let ⟨k,h3⟩:=List.mem_iff_getElem?.1 h1;⟨k,c,h3,h2⟩,fun⟨k,c,h1,h2⟩=>⟨c,List.mem_of_getElem? h1,h2⟩⟩
structure Sq (h0:ab) (C:List Ck) (h:ab) (cs:List Ck):Prop where
 sy:Sy h0 (ao C) h cs
 ri:∀b∈rds cs,b∈rds C\/b∈ao C\/h0.size<=b
theorem Sq.start {h:ab} {cs:List Ck} (H:Hp h cs):Sq h cs h cs:=⟨Sy.start H,fun b hb=>.inl hb⟩
theorem Sq.hp {h0 h:ab} {C cs:List Ck} (q:Sq h0 C h cs):Hp h cs:=q.sy.hp
theorem Sq.fr {h0 h:ab} {C cs:List Ck} (q:Sq h0 C h cs):Fr (ao C) h0 h:=q.sy.fr
section
variable {h0 h h':ab} {C A B cs cs':List Ck}
theorem dX {k:Nat} {c:Ck} (hk:A[k]? =some c):(A++B)[k]? =some c:=by
 grind
theorem gO {k:Nat} {c:Ck} (hk:B[k]? =some c):(A++B)[A.length+k]? =some c:=by
 grind
theorem cF {k:Nat} {c:Ck} (hk:(A++B)[k]? =some c):A[k]? =some c\/(A.length<=k/\B[k-A.length]? =some c):=by
 grind
theorem Sq.frA (q:Sq h0 C h (A++B)) (f:Fr (ao A) h h'):Fr (ao C) h0 h':=
 q.fr.comp f fun b hb=>by
  obtain⟨k,c,h1,h2⟩:=bm.1 hb
  exact q.sy.ow k c (dX h1) b h2
theorem Sq.frT (q:Sq h0 C h cs) (f:Fr (ao cs) h h'):Fr (ao C) h0 h':=Sq.frA (B:=[]) (by simpa using q) f
theorem Sq.call (q:Sq h0 C h (A++B)) (p:Sq h A h' cs'):Sq h0 C h' (cs'++B):=by
 have Y:=q.sy
 have P:=p.sy
 have okB:∀(k:Nat) (c:Ck),B[k]? =some c->c.ok h':=by
  intro k c hk
  have hk':=gO (A:=A) hk
  have hok:=Y.hp.ok _ c hk'
  obtain⟨l1,l2⟩:=c.lt h hok
  refine c.fr h h' (fun b hb=>P.fr.blk b (l1 b hb) fun w=>?_) (fun b hb=>P.fr.blk b (l2 b hb) fun w=>?_) hok
  ·obtain⟨i,d,h1,h3⟩:=bm.1 w
   have:=(List.getElem?_eq_some_iff.1 h1).1
   exact(Y.hp.ap i (A.length+k) d c (by omega) (dX h1) hk' b h3).1 hb
  ·obtain⟨i,d,h1,h3⟩:=bm.1 w
   have:=(List.getElem?_eq_some_iff.1 h1).1
   exact(Y.hp.ap i (A.length+k) d c (by omega) (dX h1) hk' b h3).2 hb
 refine⟨⟨q.frA P.fr,⟨fun k c hk=>?_,fun i j c d hij hi hj=>?_⟩,fun k c hk b hb=>?_⟩,fun b hb=>?_⟩
 ·rcases cF hk with hk | ⟨_,hk⟩
  ·exact P.hp.ok k c hk
  grind
 ·rcases cF hi with hi | ⟨hl,hi⟩
  ·rcases cF hj with hj | ⟨hl2,hj⟩
   ·exact P.hp.ap i j c d hij hi hj
   ·intro b hb
    have hj':=gO (A:=A) hj
    obtain⟨l1,l2⟩:=d.lt h (Y.hp.ok _ d hj')
    rcases P.ow i c hi b hb with w | w
    ·obtain⟨x,e,h1,h3⟩:=bm.1 w
     have:=(List.getElem?_eq_some_iff.1 h1).1
     exact Y.hp.ap x _ e d (by omega) (dX h1) hj' b h3
    grind
  ·rcases cF hj with hj | ⟨hl2,hj⟩
   ·intro b hb
    have hi':=gO (A:=A) hi
    obtain⟨l1,l2⟩:=c.lt h (Y.hp.ok _ c hi')
    have hbl:=l1 b hb
    refine⟨fun x=>?_,fun x=>?_⟩
    ·rcases P.ow j d hj b x with w | w
     ·obtain⟨x,e,h1,h3⟩:=bm.1 w
      have:=(List.getElem?_eq_some_iff.1 h1).1
      exact(Y.hp.ap x _ e c (by omega) (dX h1) hi' b h3).1 hb
     ·omega
    ·rcases p.ri b (bW.2 ⟨j,d,hj,x⟩)with w | w | w
     ·obtain⟨x,e,h1,h3⟩:=bW.1 w
      have:=(List.getElem?_eq_some_iff.1 h1).1
      exact(Y.hp.ap _ x c e (by omega) hi' (dX h1) b hb).2 h3
     ·obtain⟨x,e,h1,h3⟩:=bm.1 w
      have:=(List.getElem?_eq_some_iff.1 h1).1
      exact(Y.hp.ap x _ e c (by omega) (dX h1) hi' b h3).1 hb
     ·omega
   ·exact Y.hp.ap _ _ c d (by omega) (gO hi) (gO hj)
 ·rcases cF hk with hk | ⟨_,hk⟩
  ·rcases P.ow k c hk b hb with w | w
   ·obtain⟨i,d,h1,h3⟩:=bm.1 w
    exact Y.ow i d (dX h1) b h3
   ·have:=Y.le;omega
  ·exact Y.ow _ c (gO hk) b hb
 ·obtain⟨k,c,hk,hb⟩:=bW.1 hb
  rcases cF hk with hk | ⟨_,hk⟩
  ·rcases p.ri b (bW.2 ⟨k,c,hk,hb⟩)with w | w | w
   ·obtain⟨x,e,h1,h3⟩:=bW.1 w
    exact q.ri b (bW.2 ⟨x,e,dX h1,h3⟩)
   ·obtain⟨x,e,h1,h3⟩:=bm.1 w
    have:=Y.ow x e (dX h1) b h3
    grind
   ·have:=Y.le;omega
  ·exact q.ri b (bW.2 ⟨_,c,gO hk,hb⟩)
theorem Sq.callT (q:Sq h0 C h cs) (p:Sq h cs h' cs'):Sq h0 C h' cs':=by
 have:=Sq.call (A:=cs) (B:=[]) (by simpa using q) p
 grind
theorem Sq.pick (q:Sq h0 C h cs) (l:List Nat) (hc:eM cs.length l=true):Sq h0 C h (pk cs l):=
 ⟨q.sy.pick l hc,fun b hb=>by
  obtain⟨k,c,h1,h2⟩:=bW.1 hb
  obtain⟨i,_,h3⟩:=gp hc h1
  exact q.ri b (bW.2 ⟨i,c,h3,h2⟩)⟩
theorem Sq.gr (q:Sq h0 C h cs) (f:Fr [] h h'):Sq h0 C h' cs:=⟨q.sy.gr f,q.ri⟩
end
def ek (ks:List (List UInt8)):List (Value × Value):=ks.map fun k=>(.string (Go.Proofs.YtlflalecmhgmjaaGreatDoor.G.mkB k),.int .i64 1)
abbrev Fs :=List (Nat × Nat × Value)
def Ck.fx (mo:Option (Nat × List (List UInt8))) (fs:Fs):Ck:=
 ⟨(mo.map (·.1)).toList,fs.map (·.1),fun h=>(∀p,mo=some p->ci h p.1=some (Ent (ek p.2),(ek p.2).length))/\∀f∈fs,ac h f.1 f.2.1=some f.2.2,
  fun h o=>⟨by
   intro b hb
   cases mo with
   | none=>simp at hb
   | some p=>
    simp only[Option.map_some,Option.toList_some,List.mem_singleton]at hb
    subst hb
    exact(Array.getElem?_eq_some_iff.1 (bG (o.1 p rfl))).1,fun b hb=>by
   obtain⟨f,h1,rfl⟩:=List.mem_map.1 hb
   exact br (o.2 f h1)⟩,fun h h' he hr o=>⟨fun p hp=>by
   grind [jB,bG],fun f hf=>(cp (hr f.1 (List.mem_map.2 ⟨f,hf,rfl⟩)) _).trans (o.2 f hf)⟩⟩
section
variable {h0 h h':ab} {M:List Nat} {cs:List Ck} {mo:Option (Nat × List (List UInt8))} {fs:Fs} {gl:GL}
theorem Sy.factF (Y:Sy h0 M h cs) (k:Nat) (hk:cs[k]? =some (Ck.fx mo fs)) (j:Nat) {b o:Nat} {v:Value} (hj:fs[j]? =some (b,o,v)):ac h b o=some v:=(Y.ok hk).2 (b,o,v) (List.mem_of_getElem? hj)
theorem Sy.mapF {m:Nat} {ks:List (List UInt8)} (Y:Sy h0 M h cs) (k:Nat) (hk:cs[k]? =some (Ck.fx (some (m,ks)) fs)):ci h m=some (Ent (ek ks),(ek ks).length):=(Y.ok hk).1 (m,ks) rfl
theorem gP {m b o:Nat} {v:Value} {x:Array MapEntry × Nat} (h1:ci h m=some x) (h2:ac h b o=some v):m≠b:=by
 rintro rfl
 obtain⟨es,c⟩:=x
 obtain⟨c,e,f,h3,_⟩:=jL h2
 rw[bG h1]at h3
 cases h3
theorem Sy.seeF {m:Nat} {ks ks':List (List UInt8)} (Y:Sy h0 M h cs) (k:Nat) (hk:cs[k]? =some (Ck.fx (some (m,ks)) fs)) (f:Fr [m] h h') (hm:ci h' m=some (Ent (ek ks'),(ek ks').length)):Sy h0 M h' (cs.set k (Ck.fx (some (m,ks')) fs)):=by
 refine Y.mut hk _ f.size (fun d hd hn=>f.blk d hd (by simpa[Ck.fx]using hn)) ⟨fun p hp=>?_,fun x hx=>?_⟩ (fun d hd=>.inl hd) (fun d hd=>.inr (.inl hd))
 ·grind
 ·have h1:=(Y.ok hk).2 x hx
  have h2:=gP (Y.mapF k hk) h1
  rw[cp (f.blk x.1 (br h1) (by grind))]
  exact h1
theorem Sy.cutF (Y:Sy h0 M h cs) (l:List Nat) (hc:eM cs.length l=true) (mo:Option (Nat × List (List UInt8))) (fs:Fs)
  (hm:∀p,mo=some p->∃k,cs[k]? =some (Ck.mp p.1 (ek p.2))/\k∉l) (hf:∀f∈fs,ac h f.1 f.2.1=some f.2.2/\∃(k:Nat) (c:Ck),cs[k]? =some c/\((f.1∈c.own/\k∉l)\/(f.1∈c.rd/\∃mo fs,c=Ck.fx mo fs))):
  Sy h0 M h (pk cs l++[Ck.fx mo fs]):=by
 have okx:(Ck.fx mo fs).ok h:=⟨fun p hp=>by
  obtain⟨k,h1,_⟩:=hm p hp
  exact Y.mapM k h1,fun f hf'=>(hf f hf').1⟩
 have Z:=Y.pick l hc
 have ap:∀(i:Nat) (d:Ck),(pk cs l)[i]? =some d->Ap d (Ck.fx mo fs)/\Ap (Ck.fx mo fs) d:=by
  intro i d hi
  obtain⟨p,h1,h2⟩:=gp hc hi
  have hpl:p∈l:=List.mem_of_getElem? h1
  have ow:∀b∈(Ck.fx mo fs).own,b∉d.own/\b∉d.rd:=by
   intro b hb
   cases mo with
   | none=>simp[Ck.fx]at hb
   | some q=>
    simp only[Ck.fx,Option.map_some,Option.toList_some,List.mem_singleton]at hb
    subst hb
    obtain⟨k,h3,h4⟩:=hm q rfl
    exact Y.hp.ap k p _ d (fun e=>h4 (e▸hpl)) h3 h2 q.1 (by simp[Ck.mp])
  refine⟨fun b hb=>⟨fun x=>(ow b x).1 hb,fun x=>?_⟩,ow⟩
  obtain⟨f,h3,rfl⟩:=List.mem_map.1 (show b∈fs.map (·.1)from x)
  obtain⟨hcl,k,c,h4,h5⟩:=hf f h3
  rcases h5 with⟨h5,h6⟩ | ⟨h5,mo',fs',rfl⟩
  ·exact(Y.hp.ap k p c d (fun e=>h6 (e▸hpl)) h4 h2 f.1 h5).1 hb
  ·by_cases e:p=k
   ·subst e
    rw[h4]at h2
    cases h2
    cases mo' with
    | none=>simp[Ck.fx]at hb
    | some q=>
     simp only[Ck.fx,Option.map_some,Option.toList_some,List.mem_singleton]at hb
     exact gP ((Y.ok h4).1 q rfl) hcl hb.symm
   ·exact(Y.hp.ap p k d _ e h2 h4 f.1 hb).2 h5
 refine⟨Z.fr,⟨fun k c hk=>?_,fun i j c d hij hi hj=>?_⟩,fun k c hk b hb=>?_⟩
 ·rcases cF hk with hk | ⟨_,hk⟩
  ·exact Z.hp.ok k c hk
  grind
 ·have lst:∀{n:Nat} {c:Ck},([Ck.fx mo fs]:List Ck)[n]? =some c->n=0/\c=Ck.fx mo fs:=by
   grind
  rcases cF hi with hi | ⟨hl,hi⟩
  ·rcases cF hj with hj | ⟨hl2,hj⟩
   ·exact Z.hp.ap i j c d hij hi hj
   grind
  grind
 ·rcases cF hk with hk | ⟨_,hk⟩
  ·exact Z.ow k c hk b hb
  ·obtain⟨e,rfl⟩:=List.getElem?_eq_some_iff.1 hk
   simp only[List.length_singleton]at e
   have e0:k-(pk cs l).length=0:=by omega
   simp only[e0,List.getElem_cons_zero]at hb
   cases mo with
   | none=>simp[Ck.fx]at hb
   | some q=>
    simp only[Ck.fx,Option.map_some,Option.toList_some,List.mem_singleton]at hb
    subst hb
    obtain⟨k,h3,h4⟩:=hm q rfl
    exact Y.ow k _ h3 q.1 (by simp[Ck.mp])
end
end Go.X
namespace Go.Proofs.YtlflalecmhgmjaaGreatDoor.N
open Go.Proofs.YtlflalecmhgmjaaGreatDoor
open Go.X
set_option maxRecDepth 100000
set_option maxHeartbeats 2000000
def S43 (bP:Option Addr) (h:ab) (R:VP):Prop:=∃b o,bP=some ⟨b,o,none⟩/\∃(c:Option Addr) (a d:Nat),ac h b (o+1)=some (.slice c a d)/\R (.int .i64 (a:Int)) h
theorem AZ {h:ab} {R:VP} (bP:Option Addr) (H:S43 bP h R):af Tryz.prog 43 #[.pointer bP] h R:=aI [] 8 [] [] [] [] Tryz.func43 (by kernel_rfl) (by kernel_rfl) H
def S86 (bP:Option Addr) (s:ByteArray) (h:ab) (R:VP):Prop:=ah Tryz.prog 128 #[.pointer bP] h [] fun k c=>k= .tuple #[]/\∃b o,bP=some ⟨b,o,none⟩/\∃(d:Option Addr) (a e:Nat),ac c b (o+1)=some (.slice d a e)/\co 5 1 1 [] c d a e s.size (Lib.strCells s) fun sA sC hv2=>∃b2 o2,bP=some ⟨b2,o2,none⟩/\(∃j,ac hv2 b2 (o2+1)=some j)/\ar hv2 b2 (o2+1)=true/\let i:ab:=ak hv2 b2 (o2+1) (.slice sA (a+s.size) sC);R (.tuple #[.int .i64 (s.size:Int),.nilIface]) i
theorem A0 {h:ab} {R:VP} (bP:Option Addr) (s:ByteArray) (H:S86 bP s h R):af Tryz.prog 86 #[.pointer bP,.string s] h R:=aI [] 19 [] [] [] [] Tryz.func86 (by kernel_rfl) (by kernel_rfl) H
def S88 (bP:Option Addr) (c:Int) (h:ab) (R:VP):Prop:=ah Tryz.prog 128 #[.pointer bP] h [] fun m e=>m= .tuple #[]/\∃b o,bP=some ⟨b,o,none⟩/\∃(d:Option Addr) (a g:Nat),ac e b (o+1)=some (.slice d a g)/\let f:ab:=e.push (.cells #[.int .u8 c] 5);co 5 1 1 [e.size] f d a g 1 [.int .u8 c] fun sA sC hv3=>∃b2 o2,bP=some ⟨b2,o2,none⟩/\b2≠e.size/\(∃l,ac hv3 b2 (o2+1)=some l)/\ar hv3 b2 (o2+1)=true/\let k:ab:=ak hv3 b2 (o2+1) (.slice sA (a+1) sC);R (.nilIface) k
theorem Ba {h:ab} {R:VP} (bP:Option Addr) (c:Int) (H:S88 bP c h R):af Tryz.prog 88 #[.pointer bP,.int .u8 c] h R:=aI [13] 17 [] [] [] [] Tryz.func88 (by kernel_rfl) (by kernel_rfl) H
def GV (s:ByteArray) (h:ab) (R:VP):Prop:=ah Tryz.prog 144 #[.string s,.string ⟨#[38]⟩,.string ⟨#[38,97,109,112,59]⟩] h [] fun e c=>∃b:ByteArray,e= .string b/\ah Tryz.prog 144 #[.string b,.string ⟨#[34]⟩,.string ⟨#[38,113,117,111,116,59]⟩] c [] fun f d=>∃a:ByteArray,f= .string a/\((((⟨#[34]⟩:ByteArray).size+a.size:Nat)):Int)<=9223372036854775807/\(((((⟨#[34]⟩:ByteArray)++a).size+(⟨#[34]⟩:ByteArray).size:Nat)):Int)<=9223372036854775807/\R (.string (((⟨#[34]⟩:ByteArray)++a)++(⟨#[34]⟩:ByteArray))) d
theorem xW {h:ab} {R:VP} (s:ByteArray) (H:GV s h R):af Tryz.prog 104 #[.string s] h R:=aI [] 8 [] [] [] [] Tryz.func104 (by kernel_rfl) (by kernel_rfl) H
def S52 (wP wordsA:Option Addr) (wordsL wordsC:Nat) (h:ab) (R:VP):Prop:=let a:=fun(f:ab)=>(let c:=fun(t:ab)=>(∃b4 o4,wP=some ⟨b4,o4,none⟩/\ah Tryz.prog 88 #[.pointer (some (⟨b4,o4,none⟩:Addr)),.int .u8 10] t [] fun r j=>((r= .nilIface/\R (.tuple #[]) j)\/∃(v:Nat) (u:Value),r= .iface v u/\R (.tuple #[]) j));∃b3 o3,wP=some ⟨b3,o3,none⟩/\ah Tryz.prog 103 #[.slice wordsA wordsL wordsC,.string ⟨#[32]⟩] f [] fun B g=>∃l:ByteArray,B= .string l/\Fr [] f g/\ah Tryz.prog 86 #[.pointer (some (⟨b3,o3,none⟩:Addr)),.string l] g [] fun q i=>∃n:Int,((q= .tuple #[.int .i64 n,.nilIface]/\c i)\/∃(z:Nat) (x:Value),q= .tuple #[.int .i64 n,.iface z x]/\c i));∃b o,wP=some ⟨b,o,none⟩/\∃b2 o2,wP=some ⟨b2,o2,none⟩/\∃s:Int,ac h b2 (o2+2)=some (.int .i64 s)/\ah Tryz.prog 87 #[.string ⟨#[32,32]⟩,.int .i64 s] h [] fun A d=>∃k:ByteArray,A= .string k/\Fr [] h d/\ah Tryz.prog 86 #[.pointer (some (⟨b,o,none⟩:Addr)),.string k] d [] fun p e=>∃m:Int,((p= .tuple #[.int .i64 m,.nilIface]/\a e)\/∃(y:Nat) (w:Value),p= .tuple #[.int .i64 m,.iface y w]/\a e)
theorem Bb {h:ab} {R:VP} (wP wordsA:Option Addr) (wordsL wordsC:Nat) (H:S52 wP wordsA wordsL wordsC h R):af Tryz.prog 52 #[.pointer wP,.slice wordsA wordsL wordsC] h R:=aI [] 23 [] [] [] [(0,⟨8,false⟩),(1,⟨5,false⟩)] Tryz.func52 (by kernel_rfl) (by kernel_rfl) H
def S51 (wP:Option Addr) (key:ByteArray) (h:ab) (R:VP):Prop:=let d:ab:=h.push (.cells #[.string key,.string ⟨#[91]⟩] 9);ah Tryz.prog 52 #[.pointer wP,.slice (some (⟨h.size,0,none⟩:Addr)) 2 2] d [] fun g a=>g= .tuple #[]/\∃b o,wP=some ⟨b,o,none⟩/\∃c:Int,ac a b (o+2)=some (.int .i64 c)/\∃b2 o2,wP=some ⟨b2,o2,none⟩/\(∃f,ac a b2 (o2+2)=some f)/\ar a b2 (o2+2)=true/\let e:ab:=ak a b2 (o2+2) (.int .i64 (i64.wrap (c+1)));R (.tuple #[]) e
theorem Bc {h:ab} {R:VP} (wP:Option Addr) (key:ByteArray) (H:S51 wP key h R):af Tryz.prog 51 #[.pointer wP,.string key] h R:=aI [] 15 [] [] [] [] Tryz.func51 (by kernel_rfl) (by kernel_rfl) H
def S56 (wP:Option Addr) (h:ab) (R:VP):Prop:=∃b o,wP=some ⟨b,o,none⟩/\∃c:Int,ac h b (o+2)=some (.int .i64 c)/\∃b2 o2,wP=some ⟨b2,o2,none⟩/\(∃f,ac h b2 (o2+2)=some f)/\ar h b2 (o2+2)=true/\let a:ab:=ak h b2 (o2+2) (.int .i64 (i64.wrap (c-1)));let d:ab:=a.push (.cells #[.string ⟨#[93]⟩] 9);ah Tryz.prog 52 #[.pointer wP,.slice (some (⟨a.size,0,none⟩:Addr)) 1 1] d [] fun g e=>g= .tuple #[]/\R (.tuple #[]) e
theorem Bd {h:ab} {R:VP} (wP:Option Addr) (H:S56 wP h R):af Tryz.prog 56 #[.pointer wP] h R:=aI [] 12 [] [] [] [] Tryz.func56 (by kernel_rfl) (by kernel_rfl) H
def S53 (wP:Option Addr) (d:Int) (dA:Option Addr) (dL dC:Nat) (d2:Bool) (dA2:Option Addr) (dL2 dC2:Nat) (dA3:Option Addr) (dL3 dC3:Nat) (dA4:Option Addr) (dL4 dC4:Nat) (v:Int) (h:ab) (R:VP):Prop:=let x:ab:=h.push (.cells #[.int .i64 d,.slice dA dL dC,.bool d2,.slice dA2 dL2 dC2,.slice dA3 dL3 dC3,.slice dA4 dL4 dC4] 29);ah Tryz.prog 51 #[.pointer wP,.string ⟨#[110,111,100,101]⟩] x [h.size] fun L D=>L= .tuple #[]/\ah Tryz.prog 54 #[.int .i64 v] D [h.size] fun M m=>∃p:ByteArray,M= .string p/\let E:ab:=m.push (.cells #[.string ⟨#[105,100]⟩,.string p] 9);ah Tryz.prog 52 #[.pointer wP,.slice (some (⟨m.size,0,none⟩:Addr)) 2 2] E [h.size] fun N e=>N= .tuple #[]/\∃a:LP,(cnd (decide ((dL2:Int)>(0:Int))) (∃b o,dA2=some ⟨b,o,none⟩/\0<=v/\v<(dL2:Nat)/\∃t:ByteArray,ac e b (o+(Int.toNat v)*1)=some (.string t)/\ah Tryz.prog 104 #[.string t] e [h.size] fun O n=>∃q:ByteArray,O= .string q/\let F:ab:=n.push (.cells #[.string ⟨#[108,97,98,101,108]⟩,.string q] 9);ah Tryz.prog 52 #[.pointer wP,.slice (some (⟨n.size,0,none⟩:Addr)) 2 2] F [h.size] fun P G=>P= .tuple #[]/\a [] G) (a [] e))/\∀f,a [] f->∃c:LP,(cnd (decide ((dL3:Int)>(0:Int))) (ah Tryz.prog 51 #[.pointer wP,.string ⟨#[103,114,97,112,104,105,99,115]⟩] f [h.size] fun Q g=>Q= .tuple #[]/\∃b2 o2,dA3=some ⟨b2,o2,none⟩/\0<=v/\v<(dL3:Nat)/\∃u:Nat,ac g b2 (o2+(Int.toNat v)*2)=some (.float .f64 u)/\ah Tryz.prog 55 #[.float .f64 u] g [h.size] fun S i=>∃r:ByteArray,S= .string r/\let y:ab:=i.push (.cells #[.string ⟨#[120]⟩,.string r] 9);ah Tryz.prog 52 #[.pointer wP,.slice (some (⟨i.size,0,none⟩:Addr)) 2 2] y [h.size] fun T j=>T= .tuple #[]/\∃b3 o3,dA3=some ⟨b3,o3,none⟩/\0<=v/\v<(dL3:Nat)/\∃w:Nat,ac j b3 ((o3+(Int.toNat v)*2)+1)=some (.float .f64 w)/\ah Tryz.prog 55 #[.float .f64 w] j [h.size] fun H k=>∃s:ByteArray,H= .string s/\let z:ab:=k.push (.cells #[.string ⟨#[121]⟩,.string s] 9);ah Tryz.prog 52 #[.pointer wP,.slice (some (⟨k.size,0,none⟩:Addr)) 2 2] z [h.size] fun I A=>I= .tuple #[]/\ah Tryz.prog 56 #[.pointer wP] A [h.size] fun J B=>J= .tuple #[]/\c [] B) (c [] f))/\∀l,c [] l->ah Tryz.prog 56 #[.pointer wP] l [] fun K C=>K= .tuple #[]/\R (.tuple #[]) C
theorem Bf {h:ab} {R:VP} (wP:Option Addr) (d:Int) (dA:Option Addr) (dL dC:Nat) (d2:Bool) (dA2:Option Addr) (dL2 dC2:Nat) (dA3:Option Addr) (dL3 dC3:Nat) (dA4:Option Addr) (dL4 dC4:Nat) (v:Int) (H:S53 wP d dA dL dC d2 dA2 dL2 dC2 dA3 dL3 dC3 dA4 dL4 dC4 v h R):af Tryz.prog 53 #[.pointer wP,.agg #[.int .i64 d,.slice dA dL dC,.bool d2,.slice dA2 dL2 dC2,.slice dA3 dL3 dC3,.slice dA4 dL4 dC4],.int .i64 v] h R:=aI [4] 56 [] [(16,⟨[0,2,4],[],[4],[]⟩),(29,⟨[0],[],[],[]⟩)] [] [] Tryz.func53 (by kernel_rfl) (by kernel_rfl) H
def S22 (d:Int) (dA:Option Addr) (dL dC:Nat) (d2:Bool) (dA2:Option Addr) (dL2 dC2:Nat) (dA3:Option Addr) (dL3 dC3:Nat) (dA4:Option Addr) (dL4 dC4:Nat) (h:ab) (R:VP):Prop:=let J:ab:=h.push (.cells #[.int .i64 d,.slice dA dL dC,.bool d2,.slice dA2 dL2 dC2,.slice dA3 dL3 dC3,.slice dA4 dL4 dC4] 29);ah Tryz.prog 25 #[.agg #[.int .i64 d,.slice dA dL dC,.bool d2,.slice dA2 dL2 dC2,.slice dA3 dL3 dC3,.slice dA4 dL4 dC4]] J [h.size] fun Y c=>∃C:Bool,Y= .bool C/\cnd (!C) (R (.tuple #[.string ⟨#[]⟩,.int .i64 1]) c) (let V:ab:=c.push (.cells #[.pointer none,.slice none 0 0,.int .i64 0] 83);ah Tryz.prog 51 #[.pointer (some (⟨c.size,0,none⟩:Addr)),.string ⟨#[103,114,97,112,104]⟩] V [h.size] fun a5 y=>a5= .tuple #[]/\∃k:LP,(cnd d2 (k [.string ⟨#[49]⟩] y) (k [.string ⟨#[48]⟩] y))/\∀r:ByteArray,∀n,k [.string r] n->let W:ab:=n.push (.cells #[.string ⟨#[100,105,114,101,99,116,101,100]⟩,.string r] 9);ah Tryz.prog 52 #[.pointer (some (⟨c.size,0,none⟩:Addr)),.slice (some (⟨n.size,0,none⟩:Addr)) 2 2] W [h.size] fun a6 X=>a6= .tuple #[]/\∃(i:LP) (A:List Value->ab->Nat),i [.int .i64 0] X/\∀f:Int,∀g,i [.int .i64 f] g->cnd (decide (f<d)) (ah Tryz.prog 53 #[.pointer (some (⟨c.size,0,none⟩:Addr)),.agg #[.int .i64 d,.slice dA dL dC,.bool d2,.slice dA2 dL2 dC2,.slice dA3 dL3 dC3,.slice dA4 dL4 dC4],.int .i64 f] g [h.size] fun a7 z=>a7= .tuple #[]/\i [.int .i64 (i64.wrap (f+1))] z/\A [.int .i64 (i64.wrap (f+1))] z<A [.int .i64 f] g) (∃(j:LP) (B:List Value->ab->Nat),j [.int .i64 0] g/\∀e:Int,∀a,j [.int .i64 e] a->cnd (decide (e<(dL:Int))) (∃b o,dA=some ⟨b,o,none⟩/\0<=e/\e<(dL:Nat)/\∃p:Int,ac a b (o+(Int.toNat e)*2)=some (.int .i64 p)/\∃q:Int,ac a b ((o+(Int.toNat e)*2)+1)=some (.int .i64 q)/\let K:ab:=a.push (.cells #[.int .i64 0,.int .i64 0] 48);let L:ab:=ak (ak K a.size 0 (.int .i64 p)) a.size (0+1) (.int .i64 q);ah Tryz.prog 51 #[.pointer (some (⟨c.size,0,none⟩:Addr)),.string ⟨#[101,100,103,101]⟩] L [a.size,h.size] fun a8 M=>a8= .tuple #[]/\ah Tryz.prog 54 #[.int .i64 p] M [a.size,h.size] fun a9 s=>∃D:ByteArray,a9= .string D/\let N:ab:=s.push (.cells #[.string ⟨#[115,111,117,114,99,101]⟩,.string D] 9);ah Tryz.prog 52 #[.pointer (some (⟨c.size,0,none⟩:Addr)),.slice (some (⟨s.size,0,none⟩:Addr)) 2 2] N [a.size,h.size] fun b0 O=>b0= .tuple #[]/\ah Tryz.prog 54 #[.int .i64 q] O [a.size,h.size] fun b1 t=>∃E:ByteArray,b1= .string E/\let P:ab:=t.push (.cells #[.string ⟨#[116,97,114,103,101,116]⟩,.string E] 9);ah Tryz.prog 52 #[.pointer (some (⟨c.size,0,none⟩:Addr)),.slice (some (⟨t.size,0,none⟩:Addr)) 2 2] P [a.size,h.size] fun b3 m=>b3= .tuple #[]/\∃l:LP,(cnd (decide ((dL4:Int)>(0:Int))) (∃b2 o2,dA4=some ⟨b2,o2,none⟩/\0<=e/\e<(dL4:Nat)/\∃I:Nat,ac m b2 (o2+(Int.toNat e)*1)=some (.float .f64 I)/\ah Tryz.prog 55 #[.float .f64 I] m [a.size,h.size] fun Z u=>∃F:ByteArray,Z= .string F/\let Q:ab:=u.push (.cells #[.string ⟨#[119,101,105,103,104,116]⟩,.string F] 9);ah Tryz.prog 52 #[.pointer (some (⟨c.size,0,none⟩:Addr)),.slice (some (⟨u.size,0,none⟩:Addr)) 2 2] Q [a.size,h.size] fun a0 S=>a0= .tuple #[]/\l [] S) (l [] m))/\∀v,l [] v->ah Tryz.prog 56 #[.pointer (some (⟨c.size,0,none⟩:Addr))] v [h.size] fun a1 w=>a1= .tuple #[]/\j [.int .i64 (i64.wrap (e+1))] w/\B [.int .i64 (i64.wrap (e+1))] w<B [.int .i64 e] a) (ah Tryz.prog 56 #[.pointer (some (⟨c.size,0,none⟩:Addr))] a [h.size] fun a2 T=>a2= .tuple #[]/\ah Tryz.prog 43 #[.pointer (some (⟨c.size,0,none⟩:Addr))] T [h.size] fun a3 x=>∃G:Int,a3= .int .i64 G/\cnd (decide (G>262144)) (R (.tuple #[.string ⟨#[]⟩,.int .i64 23]) x) (ah Tryz.prog 44 #[.pointer (some (⟨c.size,0,none⟩:Addr))] x [h.size] fun a4 U=>∃H:ByteArray,a4= .string H/\R (.tuple #[.string H,.int .i64 0]) U))))
theorem Bg {h:ab} {R:VP} (d:Int) (dA:Option Addr) (dL dC:Nat) (d2:Bool) (dA2:Option Addr) (dL2 dC2:Nat) (dA3:Option Addr) (dL3 dC3:Nat) (dA4:Option Addr) (dL4 dC4:Nat) (H:S22 d dA dL dC d2 dA2 dL2 dC2 dA3 dL3 dC3 dA4 dL4 dC4 h R):af Tryz.prog 22 #[.agg #[.int .i64 d,.slice dA dL dC,.bool d2,.slice dA2 dL2 dC2,.slice dA3 dL3 dC3,.slice dA4 dL4 dC4]] h R:=aI [1,8] 83 [(0,⟨[1,4,24],[25],[1],[]⟩),(2,⟨[1,4,35,36],[37],[1],[]⟩)] [(17,⟨[1,4],[5],[1],[]⟩),(59,⟨[1,4,35,36,37],[],[1],[]⟩)] [] [] Tryz.func22 (by kernel_rfl) (by kernel_rfl) H
open Go.Proofs
def bI (l:List UInt8):List Int:=l.map fun c=>((c.toNat:Nat):Int)
theorem oP (a b:List UInt8):bI (a++b)=bI a++bI b:=List.map_append
theorem lF (a:List UInt8):(bI a).length=a.length:=List.length_map _
def pU (u:Bool) (b:Nat):Value:=if u=true then .pointer (some ⟨b,0,none⟩)else .pointer none
def wC (b:Nat) (u:Bool) (A:Option Addr) (c d:Nat) (l:List UInt8):List Ck:=
 [Ck.ob b 83 [pU u b,.slice A l.length c,.int .i64 (d:Int)],Ck.sl (eK .u8) 5 A l.length c (bI l)]
set_option maxHeartbeats 1000000 in
theorem uT (b:Nat) (w:World) (h0:w.cell? ⟨b,0,none⟩=some (.pointer (some ⟨b,0,none⟩))):
  Calls Tryz.prog 128 #[.pointer (some ⟨b,0,none⟩)] w fun e w'=>e= .returned (.tuple #[])/\w'=w:=by
 obtain⟨j,hj,_⟩:=Option.map_eq_some_iff.1 (show(Tryz.prog.info? 56).map (·.size)=some 2 by kernel_rfl)
 have t70:Tryz.prog.underlying 54=some (.pointer 56):=by kernel_rfl
 go_enter Tryz.func128,Tryz.ntmps128
 go_wp2
 rw[Lib.run_neq_ptr_same w _ t70 hj]
 go_wp2
 go_end0
 exact⟨rfl,rfl⟩
set_option maxHeartbeats 1000000 in
theorem rT (b:Nat) (w:World) (h0:w.cell? ⟨b,0,none⟩=some (.pointer none)) (hsh:w.shape? b=some (83,3)) (hfz:w.frozen? ⟨b,0,none⟩=false):
  Calls Tryz.prog 128 #[.pointer (some ⟨b,0,none⟩)] w fun e w'=>e= .returned (.tuple #[])/\w'=w.setCell ⟨b,0,none⟩ (.pointer (some ⟨b,0,none⟩)):=by
 obtain⟨j,hj,hjs⟩:=Option.map_eq_some_iff.1 (show(Tryz.prog.info? 56).map (·.size)=some 2 by kernel_rfl)
 have t70:Tryz.prog.underlying 54=some (.pointer 56):=by kernel_rfl
 have t164:Tryz.prog.underlying 206=some .unsafePointer:=by kernel_rfl
 go_enter Tryz.func128,Tryz.ntmps128
 go_wp2
 rw[Lib.run_to_unsafe w ⟨b,0,none⟩ t70 t164 hj (by rw[hjs];decide) hsh (by show 0<3;decide)]
 simp only[Result.andThen]
 rw[Oper.upon_value]
 go_wp2
 rw[run_callFunc_extern Tryz.func172 (by kernel_rfl) (by kernel_rfl) (by kernel_rfl) (e:=Extern.AbiNoEscape.same) (by kernel_rfl)]
 rw[Lib.run_noEscape]
 simp only[Result.andThen]
 rw[Oper.upon_value]
 go_wp2
 rw[Lib.run_from_unsafe w ⟨b,0,none⟩ t164 t70 hj hsh (by kernel_rfl)]
 simp only[Result.andThen]
 rw[Oper.upon_value]
 go_wp2
 go_end0
 exact⟨rfl,rfl⟩
theorem nM {w:World} {g n:Nat}:(w.freeze ⟨g,0,none⟩ n).heap.size=w.heap.size/\(∀k,k≠g->(w.freeze ⟨g,0,none⟩ n).heap[k]? =w.heap[k]?)/\(w.freeze ⟨g,0,none⟩ n).os=w.os/\(w.freeze ⟨g,0,none⟩ n).output=w.output:=by
 unfold World.freeze
 split
 ·exact⟨rfl,fun _ _=>rfl,rfl,rfl⟩
 ·refine⟨Array.size_modify,fun k hk=>?_,rfl,rfl⟩
  show(w.heap.modify g _)[k]? =_
  rw[Array.getElem?_modify,if_neg (Ne.symm hk)]
theorem uU {w:World} {g n:Nat}:Fr [g] w.heap (w.drew.freeze ⟨g,0,none⟩ n).heap:=by
 obtain⟨h1,h2,_⟩:=nM (w:=w.drew) (g:=g) (n:=n)
 exact⟨Nat.le_of_eq h1.symm,fun k hk hkg=>h2 k (by simpa using hkg)⟩
theorem qc {w:World} {g n:Nat}:Go.X.Rest w (w.drew.freeze ⟨g,0,none⟩ n):=by
 obtain⟨h1,_,h3,h4⟩:=nM (w:=w.drew) (g:=g) (n:=n)
 have ht:(w.drew.freeze ⟨g,0,none⟩ n).tape=w.tape:=by unfold World.freeze;split<;>rfl
 exact⟨h3,ht,h4,Nat.le_of_eq h1.symm⟩
set_option maxHeartbeats 2000000 in
theorem FV {b g cap:Nat} {p dv:Value} {l:List UInt8} {cur:Array Value} (w:World) (h0:l≠[]) (hb:w.heap[b]? =some (.cells #[p,.slice (some ⟨g,0,none⟩) l.length cap,dv] 83 (0,0)))
  (hg:Blk w.heap g 5 cur) (hnc:l.length<=cap) (hcm:cap<=maxLen) (hcs:cap*1<=cur.size) (ht:cur.toList.take (l.length*1)=(eK .u8).l (bI l)):
  Calls Tryz.prog 44 #[.pointer (some ⟨b,0,none⟩)] w fun e w'=>e= .returned (.string ⟨l.toArray⟩)/\Go.X.Rest w w'/\Fr [g] w.heap w'.heap:=by
 have hl0:l.length≠0:=by simpa using h0
 have t127:Tryz.prog.underlying 139=some (.pointer 5):=by kernel_rfl
 have cB:Tryz.prog.cellsOf 5=1:=by kernel_rfl
 obtain⟨f,hgc,_⟩:=hg
 have hgc:w.heap[g]? =some (.cells cur 5 f):=hgc
 have c1:w.drew.cell? ⟨b,1,none⟩=some (.slice (some ⟨g,0,none⟩) l.length cap):=by
  have:w.drew.heap[b]? =some (.cells #[p,.slice (some ⟨g,0,none⟩) l.length cap,dv] 83 (0,0)):=hb
  rw[Lib.cell_of_heap this];rfl
 have hSD:(Builtin.unsafeSliceData_ #[42] 139 #[.slice (some ⟨g,0,none⟩) l.length cap]).run Tryz.prog w.drew= .ok (.pointer (some ⟨g,0,none⟩)) w.drew:=
  Lib.run_unsafeSliceData_row _ _ _ _ _ _ (by omega)
 have hUS:(Builtin.unsafeString_ #[139,3] 9 #[.pointer (some ⟨g,0,none⟩),.int .i64 l.length]).run Tryz.prog w.drew= .ok (.string ⟨l.toArray⟩) (w.drew.freeze ⟨g,0,none⟩ l.length):=by
  refine Lib.run_unsafeString_row w.drew 139 3 9 5 t127 cB g cur.size (by have hg':w.drew.heap[g]? =some (.cells cur 5 f):=hgc;simp[World.shape?,hg']) l h0 (by omega) (by unfold maxLen at hcm;omega) ?_
  intro j x hx
  have hg':w.drew.heap[g]? =some (.cells cur 5 f):=hgc
  have hj:j<l.length:=(List.getElem?_eq_some_iff.1 hx).1
  have e1:(cur.toList.take (l.length*1))[j]? =some (.int .u8 x.toNat):=by
   rw[ht,rp,bI,List.map_map,List.getElem?_map,hx];rfl
  rw[List.getElem?_take,if_pos (by omega)]at e1
  have ea:((⟨g,0,none⟩:Addr).add j)=⟨g,0+j,none⟩:=by simp[Addr.add];omega
  rw[ea,ba]
  unfold ac
  rw[hg',Nat.zero_add];simpa using e1
 have fz:=uU (w:=w) (g:=g) (n:=l.length)
 have rz:=qc (w:=w) (g:=g) (n:=l.length)
 have mixed:Tryz.prog.follows .mixedOrders=true:=by kernel_rfl
 go_enter Tryz.func44,Tryz.ntmps44
 go_wp2
 go_region_o
 all_goals (go_wp2;go_ret;exact⟨rfl,rz,fz⟩)
end Go.Proofs.YtlflalecmhgmjaaGreatDoor.N
namespace Go.Proofs.YtlflalecmhgmjaaGreatDoor.G
def aw (ls:List (List UInt8)):List UInt8:=ls.flatMap fun l=>l++[10]
def wr (tx:Nat->List UInt8) (d:Dc):List UInt8:=aw (vU tx d)
theorem bB (l:List UInt8) (ls:List (List UInt8)):aw (l::ls)=l++(10::aw ls):=by simp[aw]
theorem bK (a b:List (List UInt8)):aw (a++b)=aw a++aw b:=by simp[aw]
end Go.Proofs.YtlflalecmhgmjaaGreatDoor.G
