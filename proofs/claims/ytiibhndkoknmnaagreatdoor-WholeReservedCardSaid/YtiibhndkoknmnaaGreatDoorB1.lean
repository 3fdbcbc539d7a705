/- The machine and its runs, part 1. -/
import Derived.Calls
import Derived.Test.YtiibhndkoknmnaaGreatDoorProg
import Derived.Below
import Derived.WalkKit
set_option linter.unusedVariables false
set_option linter.unusedSimpArgs false
open List renaming range→Ur,flatMap_cons→TO,flatMap_append→WQ,mem_map→Us,mem_range→XK,map_append→Uu,filter_eq_self→UB,filter_eq_nil_iff→UC,length_append→IT,mem_cons_of_mem→SQ,pairwise_cons→Ue,pairwise_singleton→UY,mem_append→Tw,pairwise_append→TV,mem_flatMap→Uh,mem_append_left→Uf,mem_append_right→Vd,length_cons→SA,filter_append→U7,filter_sublist→U0,filter_cons_of_pos→TZ,filter_cons_of_neg→T9,mem_cons→TG,nil_append→SJ,nodup_append→T',count_pos_iff→VQ,count_eq_zero→Uk,count_append→TH,map_cons→Uc,perm_ext_iff_of_nodup→VR,mem_filter→TY,filter_filter→VU,filter_congr→Wd,mem_singleton→SX,append_assoc→S6,append_nil→SN,pairwise_lt_range'→Vw,mem_range'→Vr,getElem?_eq_getElem→SH,all_eq_true→Tv,getElem?_take→UP,getElem?_drop→U',getElem?_append→X'
open Nat renaming add_sub_cancel_left→VG,le_refl→IN,max→UR,min→Tg,blt→Te,beq→SF,add→U8,mul→Vu,ble→Tj,lor→OF,land→Un,mod→SL,blt_eq→UI
open Prod renaming snd→Vv
open Bool renaming and_eq_false_iff→X5,not_eq_true'→UU,eq_iff_iff→UN
open List.Perm renaming refl→XL,of_eq→XD
open List.Pairwise renaming filter→Xk
open List.Sublist renaming refl→VV
open Go renaming Value→AT,Program→SZ,World→SE
open BitVec renaming ofInt→Ui
open Array renaming getElem?_eq_getElem→SM,ext'→US
open Go.IntKind renaming wrap→WH,signed→Wp,bits→WI
noncomputable section
namespace Go.Am.CR
variable{t S e:Nat}{l b:List Nat}
structure Ex where
 a:Nat
 n:Nat
 s:Nat
abbrev Pr:=Nat×Nat
def Ex.pr(x:Ex):List Pr:=(Ur x.n).map λi=>(x.a+i,x.s+i)
def prs(L:List Ex):List Pr:=L.flatMap Ex.pr
theorem sQ:prs []=[]:=rfl
theorem jq(x:Ex)(L:List Ex):prs (x::L)=x.pr++prs L:=TO
theorem iZ(A B:List Ex):prs (A++B)=prs A++prs B:=WQ
theorem Ex.iH{x:Ex}{p:Pr}:p∈x.pr↔x.a<=p.1/\p.1<x.a+x.n/\p.2+x.a=x.s+p.1:=by
 simp only[Ex.pr,Us,XK];constructor
 ·rintro⟨i,hi,rfl⟩;simp only;omega
 ·rintro⟨h1,h2,h3⟩;exact⟨p.1-x.a,by omega,Prod.ext (by simp only;omega) (by simp only;omega)⟩
theorem Ex.MT(x:Ex):x.pr.length=x.n:=by simp[Ex.pr]
theorem Ex.MU(x:Ex){k:Nat}(h:k<=x.n):x.pr=(⟨x.a,k,x.s⟩:Ex).pr++(⟨x.a+k,x.n-k,x.s+k⟩:Ex).pr:=by
 obtain⟨j,hj⟩:∃j,x.n=k+j:=⟨x.n-k,by omega⟩;simp only[Ex.pr,hj,List.range_add,Uu,List.map_map,VG]
 congr 1
 refine List.map_congr_left λi _=>?_;simp only[Function.comp,Nat.add_assoc]
theorem Ex.Gh{x y:Ex}(h1:x.a+x.n=y.a)(h2:x.s+x.n=y.s):(⟨x.a,x.n+y.n,x.s⟩:Ex).pr=x.pr++y.pr:=by rw[Ex.MU _ (k:=x.n) (by simp only;omega)];simp only[h1,h2,VG]
theorem Ex.MS{x:Ex}(h:x.a+x.n<=t):x.pr.filter (λp=>decide (p.1<t))=x.pr:=UB.2 λp hp=>by have:=Ex.iH.1 hp;simp;omega
theorem Ex.Ip{x:Ex}(h:x.a+x.n<=t):x.pr.filter (λp=>!decide (p.1<t))=[]:=UC.2 λp hp=>by have:=Ex.iH.1 hp;simp;omega
theorem Ex.Iq{x:Ex}(h:t<=x.a):x.pr.filter (λp=>decide (p.1<t))=[]:=UC.2 λp hp=>by have:=Ex.iH.1 hp;simp;omega
theorem Ex.DM{x:Ex}(h:t<=x.a):x.pr.filter (λp=>!decide (p.1<t))=x.pr:=UB.2 λp hp=>by have:=Ex.iH.1 hp;simp;omega
def lens(L:List Ex):Nat:=(L.map Ex.n).sum
theorem gF(a b:List Ex):lens (a++b)=lens a+lens b:=by simp[lens]
theorem gH(x:Ex)(b:List Ex):lens (x::b)=x.n+lens b:=by simp[lens]
theorem jC:lens []=0:=rfl
theorem kR:∀L:List Ex,(prs L).length=lens L
 |[]=>rfl
 |x::L=>by rw[jq,IT,gH,x.MT,kR L]
def Ex.ok(x:Ex):Prop:=1<=x.n/\x.a+x.n<=65536/\x.s+x.n<=65536
def VL(L:List Ex):Prop:=(∀x∈L,x.ok)/\L.Pairwise λx y=>x.a+x.n<=y.a
theorem VL.nil:VL []:=⟨by simp,.nil⟩
theorem VL.tail{x:Ex}{L:List Ex}(h:VL (x::L)):VL L:=⟨λy hy=>h.1 y (SQ _ hy),(Ue.1 h.2).2⟩
theorem VL.one{x:Ex}(h:x.ok):VL [x]:=⟨by simpa using h,UY _ _⟩
theorem VL.append{A B:List Ex}(ha:VL A)(hb:VL B)(h:∀p∈prs A,∀q∈prs B,p.1<q.1):VL (A++B):=by refine⟨λx hx=>(Tw.1 hx).elim (ha.1 x) (hb.1 x),TV.2 ⟨ha.2,hb.2,λx hx y hy=>?_⟩⟩;have o1:=ha.1 x hx;have o2:=hb.1 y hy;unfold Ex.ok at o1 o2;have:=h (x.a+(x.n-1),x.s+(x.n-1)) (Uh.2 ⟨x,hx,Ex.iH.2 ⟨by first|omega|(dsimp only;omega)|rfl,by first|omega|(dsimp only;omega)|rfl,by first|omega|(dsimp only;omega)|rfl⟩⟩) (y.a,y.s) (Uh.2 ⟨y,hy,Ex.iH.2 ⟨by first|omega|(dsimp only;omega)|rfl,by first|omega|(dsimp only;omega)|rfl,by first|omega|(dsimp only;omega)|rfl⟩⟩);simp only at this;omega
theorem VL.left{A B:List Ex}(h:VL (A++B)):VL A:=⟨λx hx=>h.1 x (Uf _ hx),(TV.1 h.2).1⟩
theorem VL.right{A B:List Ex}(h:VL (A++B)):VL B:=⟨λx hx=>h.1 x (Vd _ hx),(TV.1 h.2).2.1⟩
theorem VL.EF{A B:List Ex}(h:VL (A++B)){x y:Ex}(hx:x∈A)(hy:y∈B):x.a+x.n<=y.a:=(TV.1 h.2).2.2 x hx y hy
theorem VL.before{A B:List Ex}(h:VL (A++B)):∀p∈prs A,∀q∈prs B,p.1<q.1:=by intro p hp q hq;obtain⟨x,hx,hp⟩:=Uh.1 hp;obtain⟨y,hy,hq⟩:=Uh.1 hq;have:=h.EF hx hy;have:=Ex.iH.1 hp;have:=Ex.iH.1 hq;omega
def SP(P:List Pr):Prop:=P.Pairwise λp q=>p.1<q.1
theorem Ex.sR(x:Ex):SP x.pr:=by refine List.pairwise_map.2 ((List.pairwise_lt_range (n:=x.n)).imp λh=>?_);simp only;omega
theorem VL.BL:∀{L:List Ex},VL L->SP (prs L)
 |[],_=>.nil
 |x::L,h=>by rw[jq];refine TV.2 ⟨x.sR,h.tail.BL,λp hp q hq=>?_⟩;exact VL.before (A:=[x]) h p (by simpa[prs]using hp) q hq
theorem VL.IF:∀{L:List Ex} (lo:Nat),VL L->(∀x∈L,lo<=x.a)->L.length<=lens L/\(L≠[]->lens L+lo<=65536)
 |[],lo,_,_=>⟨IN _,λh=>absurd rfl h⟩
 |x::L,lo,h,hlo=>by
  have hx:=h.1 x (by simp);have h0:=hlo x (by simp);unfold Ex.ok at hx;obtain⟨h1,h2⟩:=VL.IF (x.a+x.n) h.tail λy hy=>VL.EF (A:=[x]) h (by simp) hy;rw[gH,SA];refine⟨by omega,λ_=>?_⟩
  cases L with
  |nil=>rw[jC];omega
  |cons y L=>have:=h2 (by simp);omega
def Bd(L:List Ex):Prop:=L.length<=90000/\lens L<=900000000
theorem VL.bd{L:List Ex}(h:VL L):Bd L:=by
 obtain⟨h1,h2⟩:=h.IF 0 λ_ _=>Nat.zero_le _
 cases L with
 |nil=>exact⟨by simp,by simp[lens]⟩
 |cons x L=>have:=h2 (by simp);exact⟨by omega,by omega⟩
def jK(t:Nat)(P:List Pr):List Pr:=P.filter λp=>decide (p.1<t)
def iC(t:Nat)(P:List Pr):List Pr:=P.filter λp=>!decide (p.1<t)
theorem rD(t:Nat)(P Q:List Pr):jK t (P++Q)=jK t P++jK t Q:=U7 ..
theorem qv(t:Nat)(P Q:List Pr):iC t (P++Q)=iC t P++iC t Q:=U7 ..
theorem nc{P:List Pr}{p:Pr}:p∈jK t P↔p∈P/\p.1<t:=by simp[jK]
theorem kK{P:List Pr}{p:Pr}:p∈iC t P↔p∈P/\t<=p.1:=by simp[iC]
theorem zi{P:List Pr}(h:∀p∈P,p.1<t):jK t P=P:=UB.2 λp hp=>by simpa using h p hp
theorem vF{P:List Pr}(h:∀p∈P,t<=p.1):jK t P=[]:=UC.2 λp hp=>by simpa using h p hp
theorem s8{P:List Pr}(h:∀p∈P,t<=p.1):iC t P=P:=UB.2 λp hp=>by simpa using h p hp
theorem zp{P:List Pr}(h:∀p∈P,p.1<t):iC t P=[]:=UC.2 λp hp=>by simpa using h p hp
theorem SP.sub{P Q:List Pr}(h:SP P)(hs:Q.Sublist P):SP Q:=h.sublist hs
theorem SP.low{P:List Pr}(h:SP P)(t:Nat):SP (jK t P):=h.sublist U0
theorem SP.aeb{P:List Pr}(h:SP P)(t:Nat):SP (iC t P):=h.sublist U0
theorem SP.append{P Q:List Pr}(h:SP P)(h':SP Q)(hc:∀p∈P,∀q∈Q,p.1<q.1):SP (P++Q):=TV.2 ⟨h,h',hc⟩
theorem SP.cut{P:List Pr}(h:SP P)(t:Nat):P=jK t P++iC t P:=by
 induction P with
 |nil=>rfl
 |cons p P ih=>
  have h2:=Ue.1 h;by_cases hp:p.1<t
  ·rw[show jK t (p::P)=p::jK t P from TZ (by simpa using hp),show iC t (p::P)=iC t P from T9 (by simpa using hp),List.cons_append,<-ih h2.2]
  ·rw[show jK t (p::P)=[]from vF λq hq=>by
    rcases TG.1 hq with rfl|hq
    ·omega
    ·have:=h2.1 q hq;omega,SJ]
   refine(s8 λq hq=>?_).symm;rcases TG.1 hq with rfl|hq
   ·omega
   ·have:=h2.1 q hq;omega
structure Vo where
 nm:ByteArray
 n:Nat
 r:Nat
 P:List Pr
def slo(P:List Pr):List Nat:=P.map Vv
def slv(vs:List Vo):List Nat:=vs.flatMap λv=>slo v.P
theorem jw(P Q:List Pr):slo (P++Q)=slo P++slo Q:=Uu ..
theorem lV(a b:List Vo):slv (a++b)=slv a++slv b:=WQ
theorem nS(v:Vo)(b:List Vo):slv (v::b)=slo v.P++slv b:=TO
def mF(S:Nat)(l:List Nat):List Nat:=(Ur S).map λs=>l.count s
theorem ib(S:Nat)(l:List Nat):(mF S l).length=S:=by simp[mF]
theorem ES{s:Nat}(l:List Nat)(h:s<S):(mF S l)[s]?=some (l.count s):=by simp[mF,h]
structure Vo.Ok(S:Nat)(v:Vo):Prop where
 n1:1<=v.n
 n2:v.n<=65536
 r:v.r<=v.n
 sp:SP v.P
 bl:∀p∈v.P,p.1<v.n
 sl:∀p∈v.P,p.2<S
 nd:(slo v.P).Nodup
structure Inv(S:Nat)(vs:List Vo):Prop where
 vok:∀v∈vs,v.Ok S
 nm:(vs.map Vo.nm).Nodup
 few:vs.length<=32
 ns:∀v∈vs,v.nm.size<=16
def ij(vs:List Vo)(P:List Pr):Nat:=P.countP λp=>(slv vs).count p.2==1
def ix(vs:List Vo)(v:Vo):Nat:=v.r-ij vs v.P
def ko(S:Nat)(vs:List Vo):List Nat:=(Ur S).filter λs=>(slv vs).count s==0
def jg(vs:List Vo):Nat:=(vs.map (ix vs)).sum
def room(S:Nat)(vs:List Vo):Int:=(ko S vs).length-jg vs
theorem j7{P:List Pr}{s:Nat}:s∈slo P↔∃p∈P,p.2=s:=by simp[slo]
theorem oY(vs:List Vo)(P Q:List Pr):ij vs (P++Q)=ij vs P+ij vs Q:=List.countP_append
theorem Bi{vs:List Vo}{P Q:List Pr}(h:P.Perm Q):ij vs P=ij vs Q:=h.countP_eq _
theorem uh{P Q:List Pr}(h:P.Perm Q):(slo P).Perm (slo Q):=h.map _
theorem wu{a:List Nat}(h:(a++b).Nodup){s:Nat}(ha:s∈a)(hb:s∈b):False:=(T'.1 h).2.2 s ha s hb rfl
theorem vN(h:l.Nodup){s:Nat}(hs:s∈l):l.count s=1:=by have h1:=List.nodup_iff_count.1 h s;have h2:=VQ.2 hs;omega
theorem EJ(h:l.Nodup)(s:Nat):l.count s=if s∈l then 1 else 0:=by
 split
 ·exact vN h (by assumption)
 ·exact Uk.2 (by assumption)
structure Turn(S:Nat)(vs vs':List Vo)(v v':Vo)(O U Q:List Pr):Prop where
 sp:∃A B,vs=A++v::B/\vs'=A++v'::B
 old:v.P.Perm (O++U)
 new:v'.P.Perm (Q++U)
 ok:(slo v.P).Nodup
 qn:(slo Q).Nodup
 qs:∀p∈Q,p.2<S
 qf:∀p∈Q,(slv vs).count p.2=0
 r:v'.r=v.r
theorem Turn.cnt{vs vs':List Vo}{v v':Vo}{O U Q:List Pr}(h:Turn S vs vs' v v' O U Q)(s:Nat):(slv vs').count s+(slo O).count s=(slv vs).count s+(slo Q).count s:=by obtain⟨A,B,rfl,rfl⟩:=h.sp;have h1:=(uh h.old).count_eq s;have h2:=(uh h.new).count_eq s;rw[jw,TH]at h1 h2;simp only[lV,nS,TH];omega
theorem mC{vs:List Vo}{v:Vo}{p:Pr}(hv:v∈vs)(hp:p∈v.P):1<=(slv vs).count p.2:=VQ.2 (Uh.2 ⟨v,hv,j7.2 ⟨p,hp,rfl⟩⟩)
theorem Turn.nd{vs vs':List Vo}{v v':Vo}{O U Q:List Pr}(h:Turn S vs vs' v v' O U Q):(slo O++slo U).Nodup:=by
 have:=(uh h.old).nodup_iff.1 h.ok
 rwa [jw]at this
theorem Turn.exclU{vs vs':List Vo}{v v':Vo}{O U Q:List Pr}(h:Turn S vs vs' v v' O U Q):ij vs' U=ij vs U:=by
 unfold ij;refine List.countP_congr λp hp=>?_;have hc:=h.cnt p.2;have h1:(slo O).count p.2=0:=Uk.2 λhm=>wu h.nd hm (j7.2 ⟨p,hp,rfl⟩);have h2:(slo Q).count p.2=0:=Uk.2 λhm=>by obtain⟨q,hq,e⟩:=j7.1 hm;have h3:=h.qf q hq;rw[e]at h3;obtain⟨A,B,rfl,_⟩:=h.sp;have:=mC (vs:=A++v::B) (v:=v) (p:=p) (by simp) (h.old.mem_iff.2 (Vd _ hp));omega
 simp only[beq_iff_eq];omega
theorem Turn.exclQ{vs vs':List Vo}{v v':Vo}{O U Q:List Pr}(h:Turn S vs vs' v v' O U Q):ij vs' Q=Q.length:=by
 unfold ij;rw[List.countP_eq_length];intro p hp;have hc:=h.cnt p.2;have h1:=h.qf p hp;have h2:(slo Q).count p.2=1:=vN h.qn (j7.2 ⟨p,hp,rfl⟩);have h3:(slo O).count p.2=0:=Uk.2 λhm=>by obtain⟨q,hq,e⟩:=j7.1 hm;obtain⟨A,B,rfl,_⟩:=h.sp;have:=mC (vs:=A++v::B) (v:=v) (p:=q) (by simp) (h.old.mem_iff.2 (Uf _ hq));rw[e]at this;omega
 simp only[beq_iff_eq];omega
theorem Turn.acO{vs vs':List Vo}{v v':Vo}{O U Q:List Pr}(h:Turn S vs vs' v v' O U Q){w:Vo}(hw:∃A B,vs=A++v::B/\(w∈A\/w∈B)):ij vs w.P<=ij vs' w.P:=by
 unfold ij;refine List.countP_mono_left λp hp h1=>?_;simp only[beq_iff_eq]at h1 ⊢;have hc:=h.cnt p.2;have h2:(slo Q).count p.2=0:=Uk.2 λhm=>by obtain⟨q,hq,e⟩:=j7.1 hm;have h3:=h.qf q hq;rw[e]at h3;omega
 have h3:(slo O).count p.2=0:=Uk.2 λhm=>by
  obtain⟨A,B,rfl,hw⟩:=hw;have hv:1<=(slo v.P).count p.2:=by obtain⟨q,hq,e⟩:=j7.1 hm;exact VQ.2 (j7.2 ⟨q,h.old.mem_iff.2 (Uf _ hq),e⟩)
  simp only[lV,nS,TH]at h1;have:1<=(slv A).count p.2\/1<=(slv B).count p.2:=hw.imp (λhw=>mC hw hp) (λhw=>mC hw hp);omega
 omega
theorem tH{α:Type}{f g:α->Nat}:∀{l:List α},(∀x∈l,f x<=g x)->(l.map f).sum<=(l.map g).sum
 |[],_=>IN _
 |x::l,h=>by simp only[Uc,List.sum_cons];have:=h x (by simp);have:=tH (l:=l) λy hy=>h y (SQ _ hy);omega
theorem Turn.clm{vs vs':List Vo}{v v':Vo}{O U Q:List Pr}(h:Turn S vs vs' v v' O U Q):jg vs'+ix vs v<=jg vs+ix vs' v':=by
 obtain⟨A,B,e1,e2⟩:=id h.sp;have hA:((A.map (ix vs')).sum<=(A.map (ix vs)).sum):=tH λw hw=>by have:=h.acO (w:=w) ⟨A,B,e1,.inl hw⟩;unfold ix;omega
 have hB:((B.map (ix vs')).sum<=(B.map (ix vs)).sum):=tH λw hw=>by have:=h.acO (w:=w) ⟨A,B,e1,.inr hw⟩;unfold ix;omega
 have c1:jg vs=(A.map (ix vs)).sum+(ix vs v+(B.map (ix vs)).sum):=by rw[show jg vs=(vs.map (ix vs)).sum from rfl];generalize ix vs=f;rw[e1];simp
 have c2:jg vs'=(A.map (ix vs')).sum+(ix vs' v'+(B.map (ix vs')).sum):=by rw[show jg vs'=(vs'.map (ix vs')).sum from rfl];generalize ix vs'=f;rw[e2];simp
 omega
theorem Turn.G0{vs vs':List Vo}{v v':Vo}{O U Q:List Pr}(h:Turn S vs vs' v v' O U Q)(hO:∀p∈O,2<=(slv vs).count p.2):(ko S vs').length+Q.length=(ko S vs).length:=by
 have hp:(ko S vs).Perm (slo Q++ko S vs'):=by
  refine(VR (List.nodup_range.filter _) ?_).2 λs=>?_
  ·refine T'.2 ⟨h.qn,List.nodup_range.filter _,λa ha b hb e=>?_⟩;subst e;have h1:=h.cnt a;simp only[ko,TY,beq_iff_eq]at hb;obtain⟨q,hq,rfl⟩:=j7.1 ha;have h2:(slo Q).count q.2=1:=vN h.qn ha;have h3:(slo O).count q.2=0:=Uk.2 λhm=>by obtain⟨p,hp,e⟩:=j7.1 hm;have:=hO p hp;have:=h.qf q hq;rw[e]at *;omega
   omega
  ·have h1:=h.cnt s;simp only[ko,Tw,TY,XK,beq_iff_eq];constructor
   ·rintro⟨a,b⟩;by_cases hq:s∈slo Q
    ·exact .inl hq
    ·refine .inr ⟨a,?_⟩;have:=Uk.2 hq;omega
   ·rintro(hq|⟨a,b⟩)
    ·obtain⟨q,hq',rfl⟩:=j7.1 hq;exact⟨h.qs q hq',h.qf q hq'⟩
    ·refine⟨a,?_⟩;have h3:(slo O).count s=0\/(slo O).count s=1:=by have:=EJ (T'.1 h.nd).1 s;split at this<;>omega
     rcases h3 with h3|h3
     ·omega
     ·obtain⟨p,hp,rfl⟩:=j7.1 (VQ.1 (by omega:0<(slo O).count s));have:=hO p hp;omega
 have:=hp.length_eq;rw[IT,show(slo Q).length=Q.length from List.length_map ..]at this;omega
theorem Turn.Gf{vs vs':List Vo}{v v':Vo}{O U Q:List Pr}(h:Turn S vs vs' v v' O U Q)(hO:∀p∈O,2<=(slv vs).count p.2)(hr:0<=room S vs)(hq:(Q.length:Int)<=ix vs v+room S vs):0<=room S vs':=by
 have h1:=h.G0 hO;have h2:=h.clm;have h3:=h.exclU;have h4:=h.exclQ
 have h5:ij vs v.P=ij vs U:=by
  rw[Bi h.old,oY];have:ij vs O=0:=by unfold ij;rw[List.countP_eq_zero];intro p hp;have:=hO p hp;simp;omega
  omega
 have h6:ij vs' v'.P=Q.length+ij vs U:=by rw[Bi h.new,oY,h4,h3]
 have h7:=h.r;unfold room at *;unfold ix at *;omega
def kY(a e:Nat)(P:List Pr):List Pr:=jK e (iC a P)
def asg(x:Ex)(P:List Pr):List Pr:=jK x.a P++(x.pr++iC (x.a+x.n) P)
def nN(xs:List Ex)(P:List Pr):List Pr:=xs.foldl (λP x=>asg x P) P
def inX(x:Ex)(b:Nat):Bool:=decide (x.a<=b)&&decide (b<x.a+x.n)
def cov(xs:List Ex)(b:Nat):Bool:=xs.any λx=>inX x b
theorem SP.mid{P:List Pr}(h:SP P)(a e:Nat):SP (kY a e P):=(h.aeb a).low e
theorem lQ{a:Nat}{P:List Pr}{p:Pr}:p∈kY a e P↔p∈P/\a<=p.1/\p.1<e:=by rw[kY,nc,kK,and_assoc]
theorem rH{a:Nat}(hae:a<=e)(P:List Pr):iC e (iC a P)=iC e P:=by unfold iC;rw[VU];refine Wd λp _=>?_;by_cases h:p.1<e<;>by_cases h':p.1<a<;>simp[h,h'];omega
theorem SP.aen{P:List Pr}(h:SP P){a e:Nat}(hae:a<=e):P=jK a P++(kY a e P++iC e P):=by
 have h1:=h.cut a;have h2:=(h.aeb a).cut e;rw[rH hae]at h2
 conv=>lhs;rw[h1,h2]
 rfl
theorem qE{x:Ex}{P:List Pr}(h:SP P):SP (asg x P):=by
 refine(h.low _).append (x.sR.append (h.aeb _) λp hp q hq=>?_) λp hp q hq=>?_
 ·have:=Ex.iH.1 hp;have:=kK.1 hq;omega
 ·have:=nc.1 hp;rcases Tw.1 hq with hq|hq
  ·have:=Ex.iH.1 hq;omega
  ·have:=kK.1 hq;omega
theorem SP.nodup{P:List Pr}(h:SP P):P.Nodup:=h.imp λh e=>by subst e;exact Nat.lt_irrefl _ h
theorem Cj{x:Ex}{P:List Pr}{p:Pr}:p∈asg x P↔p∈x.pr\/(p∈P/\inX x p.1=false):=by
 simp only[asg,Tw,nc,kK,inX,X5,decide_eq_false_iff_not];constructor
 ·rintro(h|h|h)
  ·exact .inr ⟨h.1,by omega⟩
  ·exact .inl h
  ·exact .inr ⟨h.1,by omega⟩
 ·rintro(h|⟨h1,h2⟩)
  ·exact .inr (.inl h)
  ·rcases h2 with h2|h2
   ·exact .inl ⟨h1,by omega⟩
   ·exact .inr (.inr ⟨h1,by omega⟩)
theorem Fv{x:Ex}{P:List Pr}(h:SP P):(asg x P).Perm (x.pr++P.filter λp=>!inX x p.1):=by
 refine(VR (qE h).nodup ?_).2 λp=>?_
 ·refine T'.2 ⟨x.sR.nodup,h.nodup.filter _,λa ha b hb e=>?_⟩;subst e;have:=Ex.iH.1 ha;simp only[TY,inX,UU,X5,decide_eq_false_iff_not]at hb;omega
 ·rw[Cj];simp[TY]
theorem wO:∀{xs:List Ex} {P:List Pr},SP P->SP (nN xs P)
 |[],_,h=>h
 |x::xs,P,h=>wO (xs:=xs) (qE h)
theorem vS:∀{xs:List Ex} {P:List Pr},VL xs->SP P->(nN xs P).Perm (prs xs++P.filter λp=>!cov xs p.1)
 |[],P,_,_=>by show P.Perm ([]++P.filter λp=>true);rw[UB.2 λ_ _=>rfl];exact XL _
 |x::xs,P,hv,h=>by
  have ih:=vS (xs:=xs) (P:=asg x P) hv.tail (qE h);refine ih.trans ?_;have h1:=(Fv (x:=x) h).filter λp=>!cov xs p.1;rw[U7,VU]at h1;have h2:x.pr.filter (λp=>!cov xs p.1)=x.pr:=UB.2 λp hp=>by have hp:=Ex.iH.1 hp;simp only[cov,UU,List.any_eq_false,inX,Bool.and_eq_true,decide_eq_true_eq,not_and];intro y hy;have:=VL.EF (A:=[x]) (x:=x) hv (SX.2 rfl) hy;omega
  rw[h2]at h1;have h3:(P.filter λp=>!cov (x::xs) p.1)=P.filter λp=>!cov xs p.1&&!inX x p.1:=Wd λp _=>by simp only[cov,List.any_cons];cases inX x p.1<;>simp
  rw[h3,jq];refine(h1.append_left _).trans ?_;rw[<-S6];exact(List.perm_append_comm).append_right _
theorem Ol(xs:List Ex)(P:List Pr):P.Perm ((P.filter λp=>cov xs p.1)++P.filter λp=>!cov xs p.1):=by
 induction P with
 |nil=>exact .nil
 |cons p P ih=>
  cases h:cov xs p.1
  ·rw[T9 (by simp[h]),TZ (by simp[h])];exact(ih.cons p).trans List.perm_middle.symm
  ·rw[TZ (by simp[h]),T9 (by simp[h])];exact ih.cons p
def lk(P:List Pr)(b:Nat):Option Nat:=(P.find? λp=>p.1==b).map Vv
theorem oU{P:List Pr}(h:SP P){b s:Nat}:lk P b=some s↔(b,s)∈P:=by
 unfold lk;constructor
 ·intro hk
  cases hf:P.find? λp=>p.1==b with
  |none=>rw[hf]at hk;cases hk
  |some p=>
   rw[hf]at hk;injection hk with hk
   have:=List.find?_some hf;simp at this;have hm:=List.mem_of_find?_eq_some hf;obtain⟨p1,p2⟩:=p;simp only at this hk;subst this hk;exact hm
 ·intro hm
  induction P with
  |nil=>cases hm
  |cons q P ih=>
   have h2:=Ue.1 h;rcases TG.1 hm with rfl|hm
   ·simp
   ·have:=h2.1 _ hm;rw[List.find?_cons_of_neg (by simp;simp only at this;omega)];exact ih h2.2 hm
theorem sZ{P:List Pr}{b:Nat}:lk P b=none↔∀p∈P,p.1≠b:=by unfold lk;simp[List.find?_eq_none]
def sL(L:List Ex):List Nat:=slo (prs L)
theorem lI:sL []=[]:=rfl
theorem iM(x:Ex)(L:List Ex):sL (x::L)=slo x.pr++sL L:=by rw[sL,jq,jw];rfl
theorem jt(A B:List Ex):sL (A++B)=sL A++sL B:=by rw[sL,iZ,jw];rfl
theorem oS{x:Ex}{s:Nat}:s∈slo x.pr↔x.s<=s/\s<x.s+x.n:=by
 rw[j7];constructor
 ·rintro⟨p,hp,rfl⟩;have:=Ex.iH.1 hp;omega
 ·rintro⟨h1,h2⟩;exact⟨(x.a+(s-x.s),s),Ex.iH.2 ⟨by dsimp only;omega,by dsimp only;omega,by dsimp only;omega⟩,rfl⟩
theorem tN{L:List Ex}{s:Nat}:s∈sL L↔∃x∈L,x.s<=s/\s<x.s+x.n:=by
 induction L with
 |nil=>simp[lI]
 |cons x L ih=>rw[iM,Tw,oS,ih];simp
theorem iz(x:Ex):slo x.pr=List.range' x.s x.n:=by rw[List.range'_eq_map_range];simp[slo,Ex.pr]
theorem iY:∀L:List Ex,(sL L).length=lens L
 |[]=>rfl
 |x::L=>by rw[iM,IT,gH,iY L,iz,List.length_range']
def SD(L:List Ex):Prop:=(∀x∈L,1<=x.n/\x.s+x.n<=65536)/\L.Pairwise λx y=>x.s+x.n<=y.s
def NF(L:List Ex):Prop:=(∀x∈L,1<=x.n/\x.s+x.n<=65536/\x.a=0)/\L.Pairwise λx y=>x.s+x.n<y.s
theorem NF.sd{L:List Ex}(h:NF L):SD L:=⟨λx hx=>⟨(h.1 x hx).1,(h.1 x hx).2.1⟩,h.2.imp λh=>by omega⟩
theorem zh(h:l.Pairwise (·<·)):l.Nodup:=h.imp λh=>Nat.ne_of_lt h
def rnS(out:List Ex)(x:Ex):List Ex:=match out.getLast? with
 |some y=>if x.s<=y.s+y.n then out.dropLast++[⟨y.a,max y.n (x.s+x.n-y.s),y.s⟩]else out++[⟨0,x.n,x.s⟩]
 |none=>[⟨0,x.n,x.s⟩]
def rnF(L:List Ex):List Ex:=L.foldl rnS []
theorem BS(x:Ex):rnS [] x=[⟨0,x.n,x.s⟩]:=rfl
theorem yJ(A:List Ex)(y x:Ex):rnS (A++[y]) x=if x.s<=y.s+y.n then A++[⟨y.a,max y.n (x.s+x.n-y.s),y.s⟩]else A++[y]++[⟨0,x.n,x.s⟩]:=by simp[rnS]
theorem adC{out:List Ex}{x:Ex}(h:NF out)(hx:1<=x.n/\x.s+x.n<=65536)(hl:∀y∈out,y.s+y.n<=x.s):NF (rnS out x)/\sL (rnS out x)=sL out++slo x.pr/\∀y∈rnS out x,y.s+y.n<=x.s+x.n:=by
 rcases List.eq_nil_or_concat out with rfl|⟨A,y,rfl⟩
 ·rw[BS];refine⟨⟨by simpa using hx,UY _ _⟩,?_,by simp⟩;rw[iM,lI,SN,SJ,iz,iz]
 ·rw[List.concat_eq_append]at h hl ⊢;rw[yJ];have hy:=h.1 y (by simp);have hyl:=hl y (by simp);have hp:=TV.1 h.2;split
  ·rename_i hc;have e:x.s=y.s+y.n:=by omega
   refine⟨⟨λz hz=>?_,TV.2 ⟨hp.1,UY _ _,λa ha b hb=>?_⟩⟩,?_,λz hz=>?_⟩
   ·rcases Tw.1 hz with hz|hz
    ·exact h.1 z (Uf _ hz)
    ·obtain rfl:=SX.1 hz;dsimp only;omega
   ·obtain rfl:=SX.1 hb;exact hp.2.2 a ha y (by simp)
   ·rw[jt,jt,S6]
    congr 1
    rw[iM,iM,lI,SN,SN,iz,iz,iz];dsimp only;rw[show max y.n (x.s+x.n-y.s)=y.n+x.n by omega,e,show y.s+y.n=y.s+1*y.n by omega,List.range'_append]
   ·rcases Tw.1 hz with hz|hz
    ·have:=hl z (Uf _ hz);omega
    ·obtain rfl:=SX.1 hz;dsimp only;omega
  ·rename_i hc;refine⟨⟨λz hz=>?_,TV.2 ⟨h.2,UY _ _,λa ha b hb=>?_⟩⟩,?_,λz hz=>?_⟩
   ·rcases Tw.1 hz with hz|hz
    ·exact h.1 z hz
    ·obtain rfl:=SX.1 hz;exact⟨hx.1,hx.2,rfl⟩
   ·obtain rfl:=SX.1 hb;have:=hl a ha;rcases Tw.1 ha with ha|ha
    ·have:=hp.2.2 a ha y (by simp);dsimp only;omega
    ·obtain rfl:=SX.1 ha;dsimp only;omega
   ·rw[jt,iM,lI,SN,iz,iz]
   ·rcases Tw.1 hz with hz|hz
    ·have:=hl z hz;omega
    ·obtain rfl:=SX.1 hz;dsimp only;omega
theorem DH:∀(L out:List Ex),SD L->NF out->(∀y∈out,∀x∈L,y.s+y.n<=x.s)->NF (L.foldl rnS out)/\sL (L.foldl rnS out)=sL out++sL L
 |[],out,_,h,_=>⟨h,by simp[lI]⟩
 |x::L,out,hL,h,hc=>by
  have h2:=Ue.1 hL.2;obtain⟨a1,a2,a3⟩:=adC h (hL.1 x (by simp)) λy hy=>hc y hy x (by simp);obtain⟨b1,b2⟩:=DH L (rnS out x) ⟨λy hy=>hL.1 y (SQ _ hy),h2.2⟩ a1 λy hy z hz=>by have:=a3 y hy;have:=h2.1 z hz;omega
  exact⟨b1,by rw[List.foldl_cons,b2,a2,iM,S6]⟩
theorem yK{L:List Ex}(h:SD L):NF (rnF L)/\sL (rnF L)=sL L:=by obtain⟨a,b⟩:=DH L [] h ⟨by simp,.nil⟩ (by simp);exact⟨a,by rw[show rnF L=L.foldl rnS []from rfl,b,lI,SJ]⟩
def leS(x y:Ex):Bool:=decide (x.s<=y.s)
def iL(L:List Ex):List Ex:=L.mergeSort leS
theorem ku(L:List Ex):(iL L).Perm L:=List.mergeSort_perm L leS
theorem ug(L:List Ex):(iL L).Pairwise λx y=>x.s<=y.s:=by have:=List.pairwise_mergeSort (le:=leS) (λa b c h1 h2=>by simp[leS]at *;omega) (λa b=>by simp[leS];omega) L;exact this.imp λh=>by simpa[leS]using h
theorem BP{A B:List Ex}(h:A.Perm B):(sL A).Perm (sL B):=(h.flatMap_right Ex.pr).map Vv
theorem Ko{A B:List Ex}(h:A.Perm B):lens A=lens B:=by rw[<-iY,<-iY];exact(BP h).length_eq
theorem yx{L:List Ex}(h:∀x∈L,1<=x.n/\x.s+x.n<=65536)(hn:(sL L).Nodup):SD (iL L):=by
 refine⟨λx hx=>h x ((ku L).mem_iff.1 hx),?_⟩;have hn2:(sL (iL L)).Nodup:=(BP (ku L)).nodup_iff.2 hn;have h2:∀x∈iL L,1<=x.n:=λx hx=>(h x ((ku L).mem_iff.1 hx)).1;have h3:=ug L;generalize iL L=K at hn2 h2 h3
 induction K with
 |nil=>exact .nil
 |cons x K ih=>
  have h4:=Ue.1 h3;rw[iM]at hn2;have h5:=T'.1 hn2;refine Ue.2 ⟨λy hy=>?_,ih h5.2.1 (λz hz=>h2 z (SQ _ hz)) h4.2⟩;have h6:=h4.1 y hy;have h7:=h2 y (SQ _ hy);rcases Nat.lt_or_ge y.s (x.s+x.n)with h8|h8
  ·exact absurd rfl (h5.2.2 y.s (oS.2 ⟨h6,h8⟩) y.s (tN.2 ⟨y,hy,IN _,by omega⟩))
  ·exact h8
theorem FV{L:List Ex}(h:SD L):iL L=L:=by refine List.mergeSort_of_pairwise (h.2.imp_of_mem λ{a b} ha hb h1=>?_);simp[leS];omega
theorem GM{L:List Ex}(h:∀x∈L,1<=x.n)(hn:(sL L).Nodup):(L.map Ex.s).Nodup:=by
 induction L with
 |nil=>simp
 |cons x L ih=>rw[iM]at hn;have h5:=T'.1 hn;rw[Uc,List.nodup_cons];refine⟨λhm=>?_,ih (λz hz=>h z (SQ _ hz)) h5.2.1⟩;obtain⟨y,hy,e⟩:=Us.1 hm;have h1:=h x (by simp);have h2:=h y (SQ _ hy);exact h5.2.2 x.s (oS.2 ⟨IN _,by omega⟩) x.s (tN.2 ⟨y,hy,by omega,by omega⟩) rfl
def clF(t:Nat)(L:List Ex):List Ex:=L.flatMap λx=>if t<x.s+x.n then[⟨0,x.s+x.n-UR x.s t,UR x.s t⟩]else[]
def clB(t:Nat)(L:List Ex):List Ex:=L.flatMap λx=>if x.s<t then[⟨0,Tg (x.s+x.n) t-x.s,x.s⟩]else[]
theorem Ew{a:List Nat}(ha:a.Pairwise (·<·))(hb:b.Pairwise (·<·))(h:∀s,s∈a↔s∈b):a=b:=by have hp:a.Perm b:=(VR (zh ha) (zh hb)).2 h;exact hp.eq_of_pairwise (λx y _ _ h1 h2=>absurd h1 (Nat.lt_asymm h2)) ha hb
theorem OH(t:Nat)(x:Ex)(L:List Ex):clF t (x::L)=(if t<x.s+x.n then[⟨0,x.s+x.n-UR x.s t,UR x.s t⟩]else[])++clF t L:=TO
theorem OK(t:Nat)(x:Ex)(L:List Ex):clB t (x::L)=(if x.s<t then[⟨0,Tg (x.s+x.n) t-x.s,x.s⟩]else[])++clB t L:=TO
theorem D9(a b:Nat):(a<=b/\UR a b=b)\/(b<=a/\UR a b=a):=by
 rcases Nat.le_total a b with h|h
 ·exact .inl ⟨h,Nat.max_eq_right h⟩
 ·exact .inr ⟨h,Nat.max_eq_left h⟩
theorem iy(a b:Nat):(a<=b/\Tg a b=a)\/(b<=a/\Tg a b=b):=by
 rcases Nat.le_total a b with h|h
 ·exact .inl ⟨h,Nat.min_eq_left h⟩
 ·exact .inr ⟨h,Nat.min_eq_right h⟩
theorem vx(t:Nat):∀L:List Ex,sL (clF t L)=(sL L).filter λs=>decide (t<=s)
 |[]=>rfl
 |x::L=>by
  rw[OH,jt,vx t L,iM,U7]
  congr 1
  rw[iz];split
  ·rename_i h;rw[iM,lI,SN,iz];refine Ew Vw (Xk _ Vw) λs=>?_;rw[TY,Vr,Vr,decide_eq_true_eq];dsimp only;rcases D9 x.s t with⟨h1,h2⟩|⟨h1,h2⟩<;>rw[h2]
   ·constructor
    ·rintro⟨i,hi,rfl⟩;exact⟨⟨t+i-x.s,by omega,by omega⟩,by omega⟩
    ·rintro⟨⟨i,hi,rfl⟩,h3⟩;exact⟨x.s+i-t,by omega,by omega⟩
   ·constructor
    ·rintro⟨i,hi,rfl⟩;exact⟨⟨i,by omega,by omega⟩,by omega⟩
    ·rintro⟨⟨i,hi,rfl⟩,h3⟩;exact⟨i,by omega,by omega⟩
  ·rename_i h
   symm
   rw[lI,UC];intro s hs;rw[Vr]at hs;obtain⟨i,hi,rfl⟩:=hs;simp;omega
theorem yC(t:Nat):∀L:List Ex,sL (clB t L)=(sL L).filter λs=>decide (s<t)
 |[]=>rfl
 |x::L=>by
  rw[OK,jt,yC t L,iM,U7]
  congr 1
  rw[iz];split
  ·rename_i h;rw[iM,lI,SN,iz];refine Ew Vw (Xk _ Vw) λs=>?_;rw[TY,Vr,Vr,decide_eq_true_eq];dsimp only;rcases iy (x.s+x.n) t with⟨h1,h2⟩|⟨h1,h2⟩<;>rw[h2]
   ·constructor
    ·rintro⟨i,hi,rfl⟩;exact⟨⟨i,by omega,by omega⟩,by omega⟩
    ·rintro⟨⟨i,hi,rfl⟩,h3⟩;exact⟨i,by omega,by omega⟩
   ·constructor
    ·rintro⟨i,hi,rfl⟩;exact⟨⟨i,by omega,by omega⟩,by omega⟩
    ·rintro⟨⟨i,hi,rfl⟩,h3⟩;exact⟨i,by omega,by omega⟩
  ·rename_i h
   symm
   rw[lI,UC];intro s hs;rw[Vr]at hs;obtain⟨i,hi,rfl⟩:=hs;simp;omega
def RL(L:List Ex):Prop:=∀x∈L,1<=x.n/\x.s+x.n<=65536/\x.a=0
theorem zD{t:Nat}{L:List Ex}(h:RL L):RL (clF t L):=by
 intro y hy;obtain⟨x,hx,hy⟩:=Uh.1 hy;have:=h x hx;split at hy
 ·obtain rfl:=SX.1 hy;dsimp only;rcases D9 x.s t with⟨h1,h2⟩|⟨h1,h2⟩<;>rw[h2]<;>omega
 ·cases hy
theorem OI{t:Nat}{L:List Ex}(h:RL L):RL (clB t L):=by
 intro y hy;obtain⟨x,hx,hy⟩:=Uh.1 hy;have:=h x hx;split at hy
 ·obtain rfl:=SX.1 hy;dsimp only;rcases iy (x.s+x.n) t with⟨h1,h2⟩|⟨h1,h2⟩<;>rw[h2]<;>omega
 ·cases hy
def woS(L:List Ex)(x:Ex):List Ex:=clB x.s L++clF (x.s+x.n) (clF x.s L)
def woF(L K:List Ex):List Ex:=K.foldl woS L
theorem RL.append{A B:List Ex}(ha:RL A)(hb:RL B):RL (A++B):=λx hx=>(Tw.1 hx).elim (ha x) (hb x)
theorem ac2{L:List Ex}{x:Ex}(h:RL L):RL (woS L x):=(OI h).append (zD (zD h))
theorem LQ(L:List Ex)(x:Ex):(sL (woS L x)).Perm ((sL L).filter λs=>!decide (s∈slo x.pr)):=by
 rw[woS,jt,yC,vx,vx,VU];generalize sL L=l
 induction l with
 |nil=>exact .nil
 |cons s l ih=>
  by_cases h1:s<x.s
  ·rw[TZ (by simpa using h1),T9 (by simp;omega),TZ (by rw[UU,decide_eq_false_iff_not,oS];omega)];exact ih.cons s
  ·rw[T9 (by simpa using h1)];by_cases h2:x.s+x.n<=s
   ·rw[TZ (by simp;omega),TZ (by rw[UU,decide_eq_false_iff_not,oS];omega)];exact List.perm_middle.trans (ih.cons s)
   ·rw[T9 (by simp;omega),T9 (by rw[UU,decide_eq_false_iff_not,oS];omega)];exact ih
theorem BC:∀(K L:List Ex),RL L->RL (woF L K)/\(sL (woF L K)).Perm ((sL L).filter λs=>!decide (s∈sL K))
 |[],L,h=>⟨h,by
  show(sL L).Perm ((sL L).filter λs=>!decide (s∈sL []))
  rw[UB.2 λs _=>by simp[lI]]⟩
 |x::K,L,h=>by obtain⟨h1,h2⟩:=BC K (woS L x) (ac2 h);refine⟨h1,h2.trans (((LQ L x).filter _).trans ?_)⟩;rw[VU];refine XD (Wd λs _=>?_);rw[iM];by_cases h3:s∈slo x.pr<;>by_cases h4:s∈sL K<;>simp[h3,h4]
theorem RL.kP{L:List Ex}(h:RL L):L.length<=lens L:=by
 induction L with
 |nil=>exact IN _
 |cons x L ih=>have:=h x (by simp);have:=ih λy hy=>h y (SQ _ hy);rw[gH,SA];omega
theorem Rm(L K:List Ex)(h:RL L):lens (woF L K)<=lens L:=by rw[<-iY,<-iY,(BC K L h).2.length_eq];exact List.length_filter_le _ _
def ng:Nat->List Ex->List Ex
 |_,[]=>[]
 |k,x::L=>(if 0<Tg k x.n then[⟨0,Tg k x.n,x.s⟩]else[])++ng (k-Tg k x.n) L
theorem Cm:∀(k:Nat) (L:List Ex),RL L->RL (ng k L)/\lens (ng k L)=Tg k (lens L)/\(sL (ng k L)).Sublist (sL L)
 |k,[],_=>⟨(by intro x hx;cases hx),(by rw[ng,jC];exact(Nat.min_zero k).symm),VV _⟩
 |k,x::L,h=>by
  have hx:=h x (by simp);obtain⟨h1,h2,h3⟩:=Cm (k-Tg k x.n) L λy hy=>h y (SQ _ hy);rw[ng];refine⟨RL.append ?_ h1,?_,?_⟩
  ·intro y hy;split at hy
   ·obtain rfl:=SX.1 hy;dsimp only;rcases iy k x.n with⟨h4,h5⟩|⟨h4,h5⟩<;>omega
   ·cases hy
  ·rw[gF,h2,gH];rcases iy k x.n with⟨h4,h5⟩|⟨h4,h5⟩<;>rw[h5]
   ·split
    ·rw[gH,jC];rcases iy (k-k) (lens L)with⟨h6,h7⟩|⟨h6,h7⟩<;>rw[h7]<;>rcases iy k (x.n+lens L)with⟨h8,h9⟩|⟨h8,h9⟩<;>rw[h9]<;>dsimp only<;>omega
    ·rw[jC];rcases iy (k-k) (lens L)with⟨h6,h7⟩|⟨h6,h7⟩<;>rw[h7]<;>rcases iy k (x.n+lens L)with⟨h8,h9⟩|⟨h8,h9⟩<;>rw[h9]<;>omega
   ·rw[if_pos (by omega),gH,jC];rcases iy (k-x.n) (lens L)with⟨h6,h7⟩|⟨h6,h7⟩<;>rw[h7]<;>rcases iy k (x.n+lens L)with⟨h8,h9⟩|⟨h8,h9⟩<;>rw[h9]<;>dsimp only<;>omega
  ·rw[jt,iM];refine List.Sublist.append ?_ h3;split
   ·rw[iM,lI,SN,iz,iz];dsimp only;rcases iy k x.n with⟨h4,h5⟩|⟨h4,h5⟩<;>rw[h5]
    ·exact List.range'_sublist_right.2 h4
    ·exact VV _
   ·exact List.nil_sublist _
end Go.Am.CR
namespace Go.Am
open Go
inductive Blk where
 |cells (c:List AT) (sz:Nat) (opn wr:Bool)
 |map (es:List (AT×AT))
class AMem (μ:Type) where
 get:μ->Nat->Option Blk
 put:μ->Nat->Option Blk->μ
 lim:μ->Nat->Bool
 get_put:∀m i j x,lim m i=true->get (put m i x) j=if j=i then x else get m j
 get_lim:∀m i x,get m i=some x->lim m i=true
 lim_put:∀m i j x,lim (put m i x) j=lim m j
def ltB:Int->Int->Bool
 | .ofNat a,.ofNat b=>Te a b
 | .ofNat _,.negSucc _=>false
 | .negSucc _,.ofNat _=>true
 | .negSucc a,.negSucc b=>Te b a
def eqB:Int->Int->Bool
 | .ofNat a,.ofNat b=>SF a b
 | .negSucc a,.negSucc b=>SF a b
 | .ofNat _,.negSucc _=>false
 | .negSucc _,.ofNat _=>false
def NT:Int->Bool
 | .ofNat a=>Te a 9223372036854775808
 | .negSucc a=>Te a 9223372036854775808
def mu(k:IntKind)(n:Int):Int:=
 match k with
 | .i64=>cond (NT n) n (k.wrap n)
 |_=>k.wrap n
def oq{α:Type}(n:Nat)(k:Nat->α):α:=match n with|0=>k 0|m+1=>k (m+1)
def UNK:Nat:=4611686018427387904
def VAG:Nat:=4611686018427387905
def bit(n:Nat):Nat:=Nat.shiftLeft 1 n
def flat:AT->Bool
 | .bool _ | .int _ _ | .float _ _ | .string _ | .pointer none | .slice none 0 0 | .map none | .nilFunc | .nilIface=>true
 |_=>false
def gy:AT->Bool
 | .agg cs=>cs.toList.all flat
 | .tuple cs=>cs.toList.all flat
 | .func (.func _) a c=>a.toList.isEmpty&&c.toList.isEmpty
 |v=>flat v
def one:AT->Bool
 | .agg _ | .tuple _=>false
 |_=>true
def Rq:AT->AT->Bool
 | .bool a,.bool b=>a==b
 | .int k a,.int k' b=>k==k'&&a==b
 | .string a,.string b=>a.data.toList==b.data.toList
 | .pointer none,.pointer none=>true
 | .slice none 0 0,.slice none 0 0=>true
 | .map none,.map none=>true
 | .nilFunc,.nilFunc=>true
 | .nilIface,.nilIface=>true
 | .func (.func f) a c,.func (.func g) a' c'=>f==g&&a.toList.isEmpty&&c.toList.isEmpty&&a'.toList.isEmpty&&c'.toList.isEmpty
 |_,_=>false
def qU:List AT->List AT->Bool
 |[],[]=>true
 |a::asl,b::bs=>Rq a b&&qU asl bs
 |_,_=>false
def veq:AT->AT->Bool
 | .agg a,.agg b=>qU a.toList b.toList
 | .tuple a,.tuple b=>qU a.toList b.toList
 |a,b=>Rq a b
def iA(l:List AT):Nat->AT:=List.rec (motive:=λ_=>Nat->AT) (λ_=>undef) (λa _ ih i=>Nat.rec (motive:=λ_=>AT) a (λj _=>ih j) i) l
def nI(l:List AT):Nat->List AT:=List.rec (motive:=λ_=>Nat->List AT) (λ_=>[]) (λa l ih i=>Nat.rec (motive:=λ_=>List AT) (a::l) (λj _=>ih j) i) l
def lC(l:List AT):Nat->Option AT:=List.rec (motive:=λ_=>Nat->Option AT) (λ_=>none) (λa _ ih i=>Nat.rec (motive:=λ_=>Option AT) (some a) (λj _=>ih j) i) l
def nH(x:AT)(l:Option (List AT)):Option (List AT):=Option.rec (motive:=λ_=>Option (List AT)) none (λl=>some (x::l)) l
def lS(l:List AT):Nat->Option (List AT):=
 List.rec (motive:=λ_=>Nat->Option (List AT)) (λn=>Nat.rec (motive:=λ_=>Option (List AT)) (some []) (λ_ _=>none) n)
  (λa _ ih i=>Nat.rec (motive:=λ_=>Option (List AT)) (some []) (λj _=>nH a (ih j)) i) l
def je(c:List AT)(off n:Nat):Option (List AT):=lS (nI c off) n
def cover(vs:List AT):List AT->Option (List AT):=
 List.rec (motive:=λ_=>List AT->Option (List AT)) (λc=>some c)
  (λv _ ih c=>List.rec (motive:=λ_=>Option (List AT)) none (λ_ c _=>nH v (ih c)) c) vs
def setCells(c:List AT):Nat->List AT->Option (List AT):=
 List.rec (motive:=λ_=>Nat->List AT->Option (List AT)) (λi vs=>Nat.rec (motive:=λ_=>Option (List AT)) (cover vs []) (λ_ _=>none) i)
  (λx c ih i vs=>Nat.rec (motive:=λ_=>Option (List AT)) (cover vs (x::c)) (λj _=>nH x (ih j vs)) i) c
def kO(l:List AT):Nat:=List.rec (motive:=λ_=>Nat) 0 (λ_ _ n=>Nat.succ n) l
def GH(e:List AT)(sel:List Nat)(t:List AT):List AT:=List.rec (motive:=λ_=>List AT) t (λi _ r=>iA e i::r) sel
inductive Opd where
 |v (i:Nat)
 |c (x:AT)
inductive POp where
 |byte
 |ind (n:Nat)
 |fld (off:Nat)
 |sub
 |subl
 |subh
 |bit (op:BinOp) (t:Nat)
 |isn (op:BinOp) (t:Nat)
 |min
 |arrs (n:Nat)
 |s2a (n:Nat)
 |gld (g:Nat) (cs:List AT)
inductive MOp where
 |mk
 |look (kt:Nat) (z:AT) (ok:Bool)
 |upd (kt:Nat)
 |del (kt:Nat)
 |str
 |cpy (sz:Nat)
 |mln
 |s2b
 |slx
inductive AOp where
 |mov (x:Opd)
 |pick (c a b:Opd)
 |bin (op:BinOp) (t:Nat) (x y:Opd)
 |una (op:UnOp) (x:Opd)
 |conv (k:IntKind) (x:Opd)
 |fld (off:Nat) (x:Opd)
 |idx (sz:Nat) (x i:Opd)
 |ida (n sz:Nat) (x i:Opd)
 |build (zero:List AT) (parts:List (Nat×Nat×Opd))
 |extr (i:Nat) (x:Opd)
 |nilck (x:Opd)
 |func (fn:Nat) (first cap:List Opd)
 |len (s:Bool) (x:Opd)
 |mx (x y:Opd)
 |slc (sz:Nat) (x:Opd) (lo hi:Option Opd)
 |new (cells:List AT)
 |box (x:Opd)
 |mkl (sz len:Nat) (zero:List AT) (parts:List (Nat×Opd))
 |make (sz bytes:Nat) (zero:List AT) (l c:Opd)
 |ld1 (x:Opd)
 |ldn (n:Nat) (x:Opd)
 |st (n:Nat) (x y:Opd)
 |app (sz bytes:Nat) (x y:Opd)
 |call (f:Nat) (args:List Opd)
 |callv (x:Opd) (args:List Opd)
 |pur (op:POp) (xs:List Opd)
 |mp (op:MOp) (xs:List Opd)
inductive AI where
 |nop (i:Nat)
 |op (o:AOp)
 |opg (o:AOp) (gi:Nat) (gw:Bool)
 |eff (o:AOp)
 |effg (o:AOp) (gi:Nat) (gw:Bool)
inductive ROp where
 |v (i:Nat)
 |cell (i:Nat)
 |cells (i n:Nat)
inductive AC where
 |skip
 |reg (l:List AI)
 |regD (l:List AI) (before:List Nat)
 |seq (a b:AC)
 |cond (x:Opd) (a b:AC)
 |block (id:Nat) (sh:List (List Nat)) (b:AC)
 |loop (sh:List (List Nat)) (b:AC)
 |pre (sel:List Nat) (d:Nat) (c:AC)
 |post (c:AC) (sel:List Nat) (d:Nat)
 |exit (id:Nat)
 |ret (rs:List ROp)
inductive AX where
 |norm
 |exit (id:Nat)
 |ret (v:AT)
inductive OR(μ:Type) where
 |no
 |ok (v:AT) (m:μ) (n r w:Nat)
inductive CR(μ:Type) where
 |no
 |ok (x:AX) (e:List AT) (m:μ) (n r w:Nat)
section
variable{μ:Type}[AMem μ](P:SZ)
def ev(e:List AT):Opd->AT
 | .v i=>iA e i
 | .c x=>x
def gM{α:Type}:Sem α->Option α
 | .pure a=>some a
 | .program k=>gM (k P)
 |_=>none
def j3(op:BinOp)(k:IntKind)(a b:Int):Option AT:=
 match op with
 | .add=>some (.int k (mu k (Int.add a b)))
 | .sub=>some (.int k (mu k (Int.sub a b)))
 | .mul=>some (.int k (mu k (Int.mul a b)))
 | .quo=>cond (eqB b 0) none (some (.int k (mu k (a.tdiv b))))
 | .rem=>cond (eqB b 0) none (some (.int k (a.tmod b)))
 | .eql=>some (.bool (eqB a b))
 | .neq=>some (.bool (!eqB a b))
 | .lss=>some (.bool (ltB a b))
 | .leq=>some (.bool (!ltB b a))
 | .gtr=>some (.bool (ltB b a))
 | .geq=>some (.bool (!ltB a b))
 |_=>none
def mQ(op:BinOp)(isNil:Bool):Option AT:=
 match op with
 | .eql=>some (.bool isNil)
 | .neq=>some (.bool (!isNil))
 |_=>none
def mA(t:Nat):Bool:=match P.underlying t with|some (.slice _)=>true|_=>false
def lK(t:Nat):Bool:=match P.underlying t with|some (.pointer _)=>true|_=>false
def vI(t:Nat):Bool:=match P.underlying t with|some (.map _ _)=>true|_=>false
def oX:Option AT->Option AT
 |some v=>cond (flat v) (some v) none
 |none=>none
def uv:AT->Bool
 | .nilIface=>false
 |_=>true
def nk(op:BinOp)(t:Nat)(x y:AT):Option AT:=
 match x,y with
 | .int k a,.int k' b=>cond (decide (k=k')) (j3 op k a b) none
 | .slice a _ _,.slice none 0 0=>cond (mA P t) (mQ op a.isNone) none
 | .pointer a,.pointer none=>cond (lK P t) (mQ op a.isNone) none
 | .map a,.map none=>cond (vI P t) (mQ op a.isNone) none
 |x,y=>cond (gy x&&gy y&&uv x) (oX (gM P (do eqGuard op t (.tmp 0) (.tmp 0) x y;binOp op t x y))) none
def notI(k:IntKind)(n:Int):Int:=k.wrap (Ui k.bits (if k.signed then -1 else k.max) ^^^ Ui k.bits n).toNat
def FN(op:UnOp)(x:AT):Option AT:=
 match op,x with
 | .not,.bool b=>some (.bool (!b))
 | .neg,.int k n=>some (.int k (mu k (Int.sub 0 n)))
 | .xor,.int k n=>some (.int k (notI k n))
 |_,_=>none
def ou(ps:List (Nat×Nat×AT)):List AT->Option (List AT):=
 List.rec (motive:=λ_=>List AT->Option (List AT)) (λc=>some c)
  (λp _ ih c=>cond (SF (kO p.2.2.cells.toList) p.2.1) (Option.rec (motive:=λ_=>Option (List AT)) none ih (setCells c p.1 p.2.2.cells.toList)) none) ps
def vC(d:Nat):Option AT->Option Nat
 |none=>some d
 |some (.int _ (.ofNat n))=>some n
 |some _=>none
def DR(a b:AT):AT->Option AT
 | .bool t=>some (cond t a b)
 |_=>none
def pP(k:IntKind):AT->Option AT
 | .int _ n=>some (.int k (mu k n))
 |_=>none
def KF(off:Nat):AT->Option AT
 | .pointer (some ⟨b,o,none⟩)=>some (.pointer (some ⟨b,U8 o off,none⟩))
 |_=>none
def iB:AT->Option Nat
 | .int _ (.ofNat i)=>some i
 |_=>none
def vJ(sz:Nat)(i:Nat):AT->Option AT
 | .slice (some ⟨b,o,none⟩) len _=>cond (Te i len) (some (.pointer (some ⟨b,U8 o (Vu i sz),none⟩))) none
 |_=>none
def Kv(n sz:Nat)(i:Nat):AT->Option AT
 | .pointer (some ⟨b,o,none⟩)=>cond (Te i n) (some (.pointer (some ⟨b,U8 o (Vu i sz),none⟩))) none
 |_=>none
def IY(s:ByteArray)(i:Nat):Option AT:=match s.data.toList[i]? with
 |some b=>some (.int .u8 (.ofNat b.toNat))
 |none=>none
def Hq(i:Nat):AT->Option AT
 | .string s=>IY s i
 |_=>none
def GU(n i:Nat):AT->Option AT
 | .agg cs=>cond (Te i n) (lC cs.toList i) none
 |_=>none
def KH(off:Nat):AT->Option AT
 | .agg cs=>lC cs.toList off
 |_=>none
def adr(s:ByteArray)(a b:Nat):Option AT:=cond (Tj a b&&Tj b s.size) (some (.string (s.extract a b))) none
def Dt(lo:Option Nat)(hi:Option Nat):AT->Option AT
 | .string s=>match lo,hi with
  |some a,some b=>adr s a b
  |_,_=>none
 |_=>none
def My:AT->Option Nat
 | .string s=>some s.size
 |_=>none
def vQ(op:BinOp)(t:Nat):AT->AT->Option AT
 | .int k a,.int k' b=>oX (gM P (do eqGuard op t (.tmp 0) (.tmp 0) (.int k a) (.int k' b);binOp op t (.int k a) (.int k' b)))
 |_,_=>none
def mnV:AT->AT->Option AT
 | .int k a,.int _ b=>some (.int k (cond (ltB b a) b a))
 |_,_=>none
def abG(n:Nat):AT->Option AT
 | .pointer (some ⟨b,o,none⟩)=>cond (Te n UNK) (some (.slice (some ⟨b,o,none⟩) n n)) none
 |_=>none
def RY(n:Nat):AT->Option AT
 | .slice (some ⟨b,o,none⟩) len _=>cond (Tj n len&&Te 0 n) (some (.pointer (some ⟨b,o,none⟩))) none
 |_=>none
def aec:List (Nat×List AT):=[(0,[.int .i64 60,.int .i64 5,.int .i64 2,.int .i64 3,.int .i64 1])]
def gldV(cs:List AT):Option AT:=some (.agg cs.toArray)
def aaN(op:BinOp)(t:Nat):AT->Option AT
 | .nilIface=>oX (gM P (binOp op t .nilIface .nilIface))
 | .iface _ _=>match op,P.underlying t with
  | .eql,some (.interface _)=>some (.bool false)
  | .neq,some (.interface _)=>some (.bool true)
  |_,_=>none
 |_=>none
def wW(op:POp)(xs:List AT):Option AT:=match op,xs with
 | .byte,[x,i]=>Option.rec (motive:=λ_=>Option AT) none (λi=>Hq i x) (iB i)
 | .ind n,[x,i]=>Option.rec (motive:=λ_=>Option AT) none (λi=>GU n i x) (iB i)
 | .fld off,[x]=>KH off x
 | .sub,[x,a,b]=>Dt (iB a) (iB b) x
 | .subl,[x,a]=>Dt (iB a) (My x) x
 | .subh,[x,b]=>Dt (some 0) (iB b) x
 | .bit op t,[x,y]=>vQ P op t x y
 | .isn op t,[x]=>aaN P op t x
 | .min,[x,y]=>mnV x y
 | .arrs n,[x]=>abG n x
 | .s2a n,[x]=>RY n x
 | .gld _ cs,[]=>gldV cs
 |_,_=>none
def Bh(i:Nat):AT->Option AT
 | .tuple vs=>lC vs.toList i
 |_=>none
def vD:AT->Option AT
 | .pointer (some a)=>some (.pointer (some a))
 |_=>none
def qR(str:Bool):AT->Option AT
 | .slice _ n _=>cond str none (some (.int .i64 (.ofNat n)))
 | .string s=>cond str (some (.int .i64 (.ofNat s.size))) none
 |_=>none
def mxV:AT->AT->Option AT
 | .int k a,.int _ b=>some (.int k (cond (ltB a b) b a))
 |_,_=>none
def RR(sz l h len cap:Nat):Option Addr->Option AT
 |some ⟨b,o,none⟩=>cond (SF cap VAG) (some (.slice (some ⟨b,o,none⟩) 0 VAG))
   (cond (SF cap UNK)
    (cond (Te l len || SF l 0) (some (.slice (some ⟨b,U8 o (Vu l sz),none⟩) (Nat.sub h l) UNK)) (some (.slice (some ⟨b,o,none⟩) 0 VAG)))
    (cond (Te cap UNK) (cond (Te l cap || SF l 0) (some (.slice (some ⟨b,U8 o (Vu l sz),none⟩) (Nat.sub h l) (Nat.sub cap l))) (some (.slice (some ⟨b,o,none⟩) 0 VAG))) none))
 |none=>cond (SF len 0&&SF cap 0) (some (.slice none 0 0)) none
 |_=>none
def wU(sz:Nat)(lo hi:Option AT):AT->Option AT
 | .slice a len cap=>match vC 0 lo,vC len hi with
  |some l,some h=>cond (Tj l h&&Tj h len) (RR sz l h len cap a) none
  |_,_=>none
 |_=>none
def uW:Option (List AT)->Option AT
 |some c=>some (.agg c.toArray)
 |none=>none
def za(f:Nat->Option AT)(x:Option Nat):Option AT:=Option.rec (motive:=λ_=>Option AT) none f x
def jc(m:μ)(n b:Nat):Option Blk:=cond (Te b n) (AMem.get m b) none
def nD(m:μ)(n:Nat)(B:Blk)(v:Nat->AT):OR μ:=cond (AMem.lim m n) (.ok (v n) (AMem.put m n (some B)) (Nat.succ n) 0 (bit n)) .no
def Ah(o l c b:Nat):AT:=.slice (some ⟨b,o,none⟩) l c
def B7(b:Nat):AT:=.pointer (some ⟨b,0,none⟩)
def iK(m:μ)(n:Nat):Option AT->OR μ
 |some v=>.ok v m n 0 0
 |none=>.no
def py(m:μ)(n b:Nat):Option AT->OR μ
 |some v=>.ok v m n (bit b) 0
 |none=>.no
def mJ(B:Option Blk)(f:List AT->OR μ):OR μ:=Option.rec (motive:=λ_=>OR μ) .no (λB=>Blk.rec (motive:=λ_=>OR μ) (λc _ _ _=>f c) (λ_=>.no) B) B
def BJ(sz:Nat):Option Blk->Bool
 |some (.cells _ s _ _)=>SF s sz
 |_=>false
def wV(m:μ)(n sz:Nat)(v:Option AT):AT->OR μ
 | .slice (some ⟨b,_,none⟩) _ c=>cond (SF c UNK) (cond (BJ sz (jc m n b)) (py m n b v) .no) (iK m n v)
 |_=>iK m n v
def Ak(m:μ)(n:Nat):AT->OR μ
 | .pointer (some ⟨b,o,none⟩)=>mJ (jc m n b) λc=>py m n b (lC c o)
 |_=>.no
def Aj(k:Nat)(m:μ)(n:Nat):AT->OR μ
 | .pointer (some ⟨b,o,none⟩)=>mJ (jc m n b) λc=>py m n b (uW (je c o k))
 |_=>.no
def tJ(m:μ)(n b sz:Nat)(opn:Bool)(v:AT)(r:Nat):Option (List AT)->OR μ
 |some c=>.ok v (AMem.put m b (some (.cells c sz opn true))) n r (bit b)
 |none=>.no
def stC(m:μ)(n b o:Nat)(vs:List AT):Option Blk->OR μ
 |some (.cells c sz opn true)=>tJ m n b sz opn undef (bit b) (setCells c o vs)
 |_=>.no
def stV(k:Nat)(vs:List AT)(m:μ)(n:Nat):AT->OR μ
 | .pointer (some ⟨b,o,none⟩)=>cond (SF (kO vs) k&&vs.all one) (stC m n b o vs (jc m n b)) .no
 |_=>.no
def D4(m:μ)(n sz len:Nat):Option (List AT)->OR μ
 |some c=>nD m n (.cells c sz false true) (Ah 0 len len)
 |none=>.no
def pY(z:List AT)(n:Nat):List AT:=Nat.rec (motive:=λ_=>List AT) [] (λ_ l=>z++l) n
def wy(sz bytes:Nat)(z:List AT)(m:μ)(n:Nat):Option Nat->Option Nat->OR μ
 |some l,some c=>cond (Tj l c&&Tj (Vu c bytes) 281474976710656&&Tj c 1099511627776) (nD m n (.cells (pY z c) sz false true) (Ah 0 l c)) .no
 |_,_=>.no
def szF(s sz:Nat):Bool:=SF s sz || SF s 0
def pW(sz o l b:Nat):Option Blk->Option (List AT×Nat)
 |some (.cells c s _ _)=>cond (szF s sz) (Option.rec (motive:=λ_=>Option (List AT×Nat)) none (λx=>some (x,bit b)) (je c o (Vu l sz))) none
 |_=>none
def shown(m:μ)(n sz:Nat):AT->Option (List AT×Nat)
 | .slice none 0 0=>some ([],0)
 | .slice (some ⟨b,o,none⟩) l _=>cond (SF l 0) (some ([],0)) (pW sz o l b (jc m n b))
 |_=>none
def zT(m:μ)(n sz len:Nat)(c:List AT)(r:Nat):OR μ:=cond (AMem.lim m n) (.ok (Ah 0 len UNK n) (AMem.put m n (some (.cells c sz true true))) (Nat.succ n) r (bit n)) .no
def wZ(m:μ)(n sz len:Nat)(c:List AT)(r:Nat)(ax:Addr):Option Blk->OR μ
 |some (.cells _ s true true)=>cond (AMem.lim m n&&SF s sz)
   (.ok (Ah 0 len UNK n) (AMem.put (AMem.put m ax.block none) n (some (.cells c sz true true))) (Nat.succ n) r (OF (bit ax.block) (bit n))) .no
 |_=>.no
def LD(m:μ)(n sz lx len cx:Nat)(b:List AT)(r:Nat)(bx ox:Nat):Option Blk->OR μ
 |some (.cells c s opn true)=>tJ m n bx s opn (Ah ox len cx bx) r (setCells c (U8 ox (Vu lx sz)) b)
 |_=>.no
def xd(m:μ)(n sz lx ly cx:Nat)(a b:List AT)(r:Nat):Option Addr->OR μ
 |none=>cond (SF ly 0) (.ok (.slice none 0 0) m n r 0) (zT m n sz (U8 lx ly) (a++b) r)
 |some ⟨bx,ox,none⟩=>cond (SF cx VAG) .no (cond (SF cx UNK) (wZ m n sz (U8 lx ly) (a++b) r ⟨bx,ox,none⟩ (jc m n bx))
   (cond (Tj (U8 lx ly) cx) (LD m n sz lx (U8 lx ly) cx b r bx ox (jc m n bx)) (zT m n sz (U8 lx ly) (a++b) r)))
 |_=>.no
def HP(sz bytes:Nat)(m:μ)(n:Nat)(a:List AT×Nat)(b:List AT×Nat):AT->AT->OR μ
 | .slice ax lx cx,.slice _ ly _=>
  cond (b.1.all one&&Te 0 sz&&Te 0 bytes&&Tj (Vu (U8 lx ly) bytes) 140737488355328)
   (xd m n sz lx ly cx a.1 b.1 (OF a.2 b.2) ax) .no
 |_,_=>.no
def nl(sz bytes:Nat)(m:μ)(n:Nat)(x y:AT):Option (List AT×Nat)->Option (List AT×Nat)->OR μ
 |some a,some b=>HP sz bytes m n a b x y
 |_,_=>.no
def mapP(b:Nat):AT:=.map (some b)
def nJ(ks:List AT):List MapEntry:=ks.map λk=>⟨k,undef,0⟩
def j0(P:SZ)(e:Bool)(kt:Nat)(k:AT)(ks:List AT):Option (Option Nat):=(gM P (do Instr.checkKey e 10000 kt k;Instr.findKey kt k (nJ ks))).map λr=>r.map (·.1)
def AY(ok:Bool)(v:AT)(t:Bool):AT:=cond ok (.tuple #[v,.bool t]) v
def zk(ok:Bool)(z:AT)(es:List (AT×AT)):Option (Option Nat)->Option AT
 |some none=>some (AY ok z false)
 |some (some i)=>(es[i]?).map λp=>AY ok p.2 true
 |none=>none
def A'(P:SZ)(kt:Nat)(z:AT)(ok:Bool)(m:μ)(n b:Nat)(k:AT):Option Blk->OR μ
 |some (.map es)=>py m n b (zk ok z es (j0 P es.isEmpty kt k (es.map (·.1))))
 |_=>.no
def Ru(k v:AT)(es:List (AT×AT)):Option (Option Nat)->Option (List (AT×AT))
 |some none=>some (es++[(k,v)])
 |some (some i)=>match es[i]? with
  |some p=>cond (Instr.sameBits 10000 p.1 k) (some (es.set i (k,v))) none
  |none=>none
 |none=>none
def aa5(es:List (AT×AT)):Option (Option Nat)->Option (List (AT×AT))
 |some none=>some es
 |some (some i)=>some (es.eraseIdx i)
 |none=>none
def Ai(m:μ)(n b:Nat):Option (List (AT×AT))->OR μ
 |some es=>.ok undef (AMem.put m b (some (.map es))) n (bit b) (bit b)
 |none=>.no
def JA(P:SZ)(kt:Nat)(m:μ)(n b:Nat)(k v:AT):Option Blk->OR μ
 |some (.map es)=>Ai m n b (Ru k v es (j0 P false kt k (es.map (·.1))))
 |_=>.no
def KQ(P:SZ)(kt:Nat)(m:μ)(n b:Nat)(k:AT):Option Blk->OR μ
 |some (.map es)=>Ai m n b (aa5 es (j0 P es.isEmpty kt k (es.map (·.1))))
 |_=>.no
def Ax:List AT->Option (List Int)
 |[]=>some []
 | .int .u8 z::l=>match Ax l with
  |some zs=>some (z::zs)
  |none=>none
 |_=>none
def strOf(ns:List Int):ByteArray:=ns.foldl (λr n=>r.push (UInt8.ofNat n.toNat)) ByteArray.empty
def Mn(c:List AT)(o l:Nat):Option AT:=match je c o l with
 |some xs=>match Ax xs with
  |some zs=>some (.string (strOf zs))
  |none=>none
 |none=>none
def kN(m:μ)(n b o l:Nat):Option Blk->OR μ
 |some (.cells c sz _ _)=>cond (SF sz 1) (py m n b (Mn c o l)) .no
 |_=>.no
def RN:AT->Option Nat->Option Nat->Option AT
 | .slice (some ⟨b,o,none⟩) l c,some h,some k=>cond (SF h k&&Tj h l&&Te h UNK&&Tj c UNK) (some (.slice (some ⟨b,o,none⟩) h h)) none
 |_,_,_=>none
def bytesOf(s:ByteArray):List AT:=s.data.toList.map λb=>.int .u8 (b.toNat:Int)
def bytP(k b:Nat):AT:=.slice (some ⟨b,0,none⟩) k UNK
def Ki(m:μ)(n b:Nat):Option Blk->OR μ
 |some (.map es)=>py m n b (some (.int .i64 (es.length:Int)))
 |_=>.no
def Oi(m:μ)(n b o sz k:Nat)(p:List AT×Nat):Option Blk->OR μ
 |some (.cells c s opn true)=>cond (SF s sz&&p.1.all one) (tJ m n b s opn (.int .i64 (k:Int)) (OF p.2 (bit b)) (setCells c o p.1)) .no
 |_=>.no
def EG(sz:Nat)(m:μ)(n:Nat)(y:Option (List AT×Nat)):AT->AT->OR μ
 | .slice (some ⟨b,o,none⟩) l _,.slice _ k _=>match y with
  |some p=>cond (Tj k l&&Te 0 k) (Oi m n b o sz k p (jc m n b)) .no
  |none=>.no
 |_,_=>.no
def lu(op:MOp)(xs:List AT)(m:μ)(n:Nat):OR μ:=match op,xs with
 | .mk,[]=>nD m n (.map []) mapP
 | .look kt z ok,[x,k]=>cond (gy k) (match x with
  | .map none=>iK m n (zk ok z [] (j0 P true kt k []))
  | .map (some b)=>A' P kt z ok m n b k (jc m n b)
  |_=>.no) .no
 | .upd kt,[x,k,v]=>cond (gy k) (match x with
  | .map (some b)=>JA P kt m n b k v (jc m n b)
  |_=>.no) .no
 | .del kt,[x,k]=>cond (gy k) (match x with
  | .map (some b)=>KQ P kt m n b k (jc m n b)
  |_=>.no) .no
 | .str,[x]=>match x with
  | .slice (some ⟨b,o,none⟩) (l+1) _=>kN m n b o (l+1) (jc m n b)
  |_=>.no
 | .cpy sz,[x,y]=>EG sz m n (shown m n sz y) x y
 | .mln,[x]=>match x with
  | .map none=>iK m n (some (.int .i64 0))
  | .map (some b)=>Ki m n b (jc m n b)
  |_=>.no
 | .s2b,[x]=>match x with
  | .string s=>nD m n (.cells (bytesOf s) 1 false false) (bytP s.size)
  |_=>.no
 | .slx,[x,h,k]=>iK m n (RN x (iB h) (iB k))
 |_,_=>.no
def oC(rec:Nat->List AT->μ->Nat->OR μ)(args:List AT)(m:μ)(n:Nat):AT->OR μ
 | .func (.func f) a c=>rec f (a.toList++args++c.toList) m n
 |_=>.no
def evs(e:List AT)(l:List Opd):List AT:=List.rec (motive:=λ_=>List AT) [] (λx _ r=>ev e x::r) l
def pj(e:List AT)(l:List (Nat×Nat×Opd)):List (Nat×Nat×AT):=List.rec (motive:=λ_=>List (Nat×Nat×AT)) [] (λp _ r=>(p.1,p.2.1,ev e p.2.2)::r) l
def mO(sz:Nat)(e:List AT)(l:List (Nat×Opd)):List (Nat×Nat×AT):=List.rec (motive:=λ_=>List (Nat×Nat×AT)) [] (λp _ r=>(Vu p.1 sz,sz,ev e p.2)::r) l
def oev(e:List AT)(x:Option Opd):Option AT:=Option.rec (motive:=λ_=>Option AT) none (λx=>some (ev e x)) x
def gV(rec:Nat->List AT->μ->Nat->OR μ)(e:List AT)(m:μ)(n:Nat)(op:AOp):OR μ:=
 AOp.rec (motive:=λ_=>OR μ)
  (λx=>.ok (ev e x) m n 0 0)
  (λc a b=>iK m n (DR (ev e a) (ev e b) (ev e c)))
  (λop t x y=>iK m n (nk P op t (ev e x) (ev e y)))
  (λop x=>iK m n (FN op (ev e x)))
  (λk x=>iK m n (pP k (ev e x)))
  (λoff x=>iK m n (KF off (ev e x)))
  (λsz x i=>iK m n (za (λi=>vJ sz i (ev e x)) (iB (ev e i))))
  (λk sz x i=>iK m n (za (λi=>Kv k sz i (ev e x)) (iB (ev e i))))
  (λz ps=>iK m n (uW (ou (pj e ps) z)))
  (λi x=>iK m n (Bh i (ev e x)))
  (λx=>iK m n (vD (ev e x)))
  (λf a c=>.ok (.func (.func f) (evs e a).toArray (evs e c).toArray) m n 0 0)
  (λs x=>iK m n (qR s (ev e x)))
  (λx y=>iK m n (mxV (ev e x) (ev e y)))
  (λsz x lo hi=>wV m n sz (wU sz (oev e lo) (oev e hi) (ev e x)) (ev e x))
  (λc=>nD m n (.cells c 0 false true) B7)
  (λx=>nD m n (.cells (ev e x).cells.toList 0 false true) B7)
  (λsz len z ps=>D4 m n sz len (ou (mO sz e ps) (pY z len)))
  (λsz bytes z l c=>wy sz bytes z m n (iB (ev e l)) (iB (ev e c)))
  (λx=>Ak m n (ev e x))
  (λk x=>Aj k m n (ev e x))
  (λk x y=>stV k (ev e y).cells.toList m n (ev e x))
  (λsz bytes x y=>nl sz bytes m n (ev e x) (ev e y) (shown m n sz (ev e x)) (shown m n sz (ev e y)))
  (λf args=>rec f (evs e args) m n)
  (λx args=>oC rec (evs e args) m n (ev e x))
  (λop xs=>iK m n (wW P op (evs e xs)))
  (λop xs=>lu P op (evs e xs) m n)
  op
def ia(w:Bool):AT->Bool
 | .bool b=>cond w b (!b)
 |_=>false
def kS(x:OR μ)(f:AT->μ->Nat->Nat->Nat->CR μ):CR μ:=OR.rec (motive:=λ_=>CR μ) .no f x
def wE(e:List AT)(m:μ)(n r w:Nat):CR μ:=oq r λr=>oq w λw=>.ok .norm e m n r w
def lj(rec:Nat->List AT->μ->Nat->OR μ)(l:List AI):List AT->μ->Nat->Nat->Nat->CR μ:=
 List.rec (motive:=λ_=>List AT->μ->Nat->Nat->Nat->CR μ) wE
  (λi _ ih e m n r w=>AI.rec (motive:=λ_=>CR μ)
   (λ_=>ih e m n r w)
   (λo=>kS (gV P rec e m n o) λv m n r' w'=>ih (v::e) m n (OF r r') (OF w w'))
   (λo gi gw=>cond (ia gw (iA e gi)) (kS (gV P rec e m n o) λv m n r' w'=>ih (v::e) m n (OF r r') (OF w w')) (ih (undef::e) m n r w))
   (λo=>kS (gV P rec e m n o) λ_ m n r' w'=>ih e m n (OF r r') (OF w w'))
   (λo gi gw=>cond (ia gw (iA e gi)) (kS (gV P rec e m n o) λ_ m n r' w'=>ih e m n (OF r r') (OF w w')) (ih e m n r w))
   i) l
def apart(bef r w:Nat):List (Nat×Nat×Nat)->Bool
 |[]=>true
 |(i,r',w')::l=>(Nat.testBit bef i || (SF (Un w (OF r' w')) 0&&SF (Un w' r) 0))&&apart bef r w l
def eu:AOp->List Opd
 | .mov x | .una _ x | .conv _ x | .fld _ x | .extr _ x | .nilck x | .len _ x | .box x | .ld1 x | .ldn _ x=>[x]
 | .pick a b c=>[a,b,c]
 | .bin _ _ x y | .idx _ x y | .ida _ _ x y | .mx x y | .make _ _ _ x y | .st _ x y | .app _ _ x y=>[x,y]
 | .build _ ps=>ps.map λp=>p.2.2
 | .mkl _ _ _ ps=>ps.map λp=>p.2
 | .func _ a c=>a++c
 | .slc _ x lo hi=>x::(lo.toList++hi.toList)
 | .new _=>[]
 | .call _ asl=>asl
 | .callv x asl=>x::asl
 | .pur _ xs=>xs
 | .mp _ xs=>xs
def jz(n:Nat):AT->Bool
 | .pointer (some a)=>Te a.block n
 | .slice (some a) _ _=>Te a.block n
 | .map (some b)=>Te b n
 |v=>flat v
def rP(n:Nat):AT->Bool
 | .agg cs=>cs.toList.all (jz n)
 |v=>jz n v
def iW(n:Nat):AT->Bool
 | .agg cs=>cs.toList.all (jz n)
 | .tuple cs=>cs.toList.all (rP n)
 | .func (.func _) a c=>a.toList.all (rP n)&&c.toList.all (rP n)
 |v=>jz n v
def oG(n:Nat)(e:List AT)(o:AOp):Bool:=(eu o).all λx=>iW n (ev e x)
def okD(bef k:Nat)(done:List (Nat×Nat×Nat))(x:OR μ)(f:AT->μ->Nat->Nat->Nat->List (Nat×Nat×Nat)->CR μ):CR μ:=kS x λv m n r w=>oq r λr=>oq w λw=>cond (SF (OF r w) 0) (f v m n r w done) (cond (apart bef r w done) (f v m n r w ((k,r,w)::done)) .no)
def iQ(rec:Nat->List AT->μ->Nat->OR μ)(e:List AT)(m:μ)(n:Nat)(o:AOp):OR μ:=cond (oG n e o) (gV P rec e m n o) .no
def jY(rec:Nat->List AT->μ->Nat->OR μ)(l:List AI):List Nat->Nat->List (Nat×Nat×Nat)->List AT->μ->Nat->Nat->Nat->CR μ:=
 List.rec (motive:=λ_=>List Nat->Nat->List (Nat×Nat×Nat)->List AT->μ->Nat->Nat->Nat->CR μ) (λ_ _ _=>wE)
  (λi _ ih bs k done e m n r w=>AI.rec (motive:=λ_=>CR μ)
   (λ_=>ih bs.tail (Nat.succ k) done e m n r w)
   (λo=>okD (bs.headD 0) k done (iQ P rec e m n o) λv m n r' w' done=>ih bs.tail (Nat.succ k) done (v::e) m n (OF r r') (OF w w'))
   (λo gi gw=>cond (ia gw (iA e gi)) (okD (bs.headD 0) k done (iQ P rec e m n o) λv m n r' w' done=>ih bs.tail (Nat.succ k) done (v::e) m n (OF r r') (OF w w')) (ih bs.tail (Nat.succ k) done (undef::e) m n r w))
   (λo=>okD (bs.headD 0) k done (iQ P rec e m n o) λ_ m n r' w' done=>ih bs.tail (Nat.succ k) done e m n (OF r r') (OF w w'))
   (λo gi gw=>cond (ia gw (iA e gi)) (okD (bs.headD 0) k done (iQ P rec e m n o) λ_ m n r' w' done=>ih bs.tail (Nat.succ k) done e m n (OF r r') (OF w w')) (ih bs.tail (Nat.succ k) done e m n r w))
   i) l
def Sd(vs:List AT)(r b:Nat)(f:List AT->Option AT)(B:Option Blk):Option (List AT×Nat):=Option.rec (motive:=λ_=>Option (List AT×Nat)) none (λB=>Blk.rec (motive:=λ_=>Option (List AT×Nat)) (λc _ _ _=>Option.rec (motive:=λ_=>Option (List AT×Nat)) none (λv=>some (v::vs,OF r (bit b))) (f c)) (λ_=>none) B) B
def yN(m:μ)(n:Nat)(vs:List AT)(r:Nat)(f:Nat->List AT->Option AT):AT->Option (List AT×Nat)
 | .pointer (some ⟨b,o,none⟩)=>Sd vs r b (f o) (jc m n b)
 |_=>none
def BU(e:List AT)(m:μ)(n:Nat)(vs:List AT)(r:Nat):ROp->Option (List AT×Nat)
 | .v i=>some (iA e i::vs,r)
 | .cell i=>yN m n vs r (λo c=>lC c o) (iA e i)
 | .cells i k=>yN m n vs r (λo c=>uW (je c o k)) (iA e i)
def pX(e:List AT)(m:μ)(n:Nat)(l:List ROp):Option (List AT×Nat):=
 List.rec (motive:=λ_=>Option (List AT×Nat)) (some ([],0))
  (λx _ ih=>Option.rec (motive:=λ_=>Option (List AT×Nat)) none (λp=>BU e m n p.1 p.2 x) ih) l
def yM:List AT->AT
 |[v]=>v
 |l=>.tuple l.toArray
structure AFn where
 na:Nat
 endrs:List ROp
 code:AC
def iI(m0:μ)(n0:Nat)(v:AT)(m:μ)(n r w:Nat):OR μ:=cond (gy v&&SF (SL w (bit n0)) 0) (oq (SL r (bit n0)) λr=>.ok v m0 n0 r 0) (.ok v m n r w)
def Ek(sel:List Nat)(d:Nat)(e:List AT):List AT:=GH e sel (nI e d)
def vH(m0:μ)(n0:Nat)(m:μ)(n r w:Nat):Option (List AT×Nat)->OR μ
 |some (vs,r')=>iI m0 n0 (yM vs) m n (OF r r') w
 |none=>.no
def lZ(fn:AFn)(m0:μ)(n0:Nat)(e:List AT)(m:μ)(n r w:Nat):AX->OR μ
 | .norm=>vH m0 n0 m n r w (pX e m n fn.endrs)
 | .ret v=>iI m0 n0 v m n r w
 | .exit _=>.no
def pR(rec:AC->List AT->μ->Nat->CR μ)(args:List AT)(m:μ)(n:Nat)(fn:AFn):OR μ:=cond (SF (kO args) fn.na) (CR.rec (motive:=λ_=>OR μ) .no (λx e m' n' r w=>lZ fn m n e m' n' r w x) (rec fn.code args m n)) .no
def im(E:Nat->Option AFn)(Y:Nat->List AT->μ->Nat->OR μ)(rec:AC->List AT->μ->Nat->CR μ)(f:Nat)(args:List AT)(m:μ)(n:Nat):OR μ:=Option.rec (motive:=λ_=>OR μ) (Y f args m n) (pR rec args m n) (E f)
def kq(x:CR μ)(f:AX->List AT->μ->Nat->Nat->Nat->CR μ):CR μ:=CR.rec (motive:=λ_=>CR μ) .no f x
def lH(r w:Nat):CR μ->CR μ
 | .ok x e m n r' w'=>.ok x e m n (OF r r') (OF w w')
 | .no=>.no
def ke(f:List AT->μ->Nat->CR μ)(x:AX)(e:List AT)(m:μ)(n r w:Nat):CR μ:=
 match x with
 | .norm=>lH r w (f e m n)
 |x=>.ok x e m n r w
def lJ(a b:CR μ):AT->CR μ
 | .bool t=>cond t a b
 |_=>.no
def oR(id:Nat)(x:AX)(e:List AT)(m:μ)(n r w:Nat):CR μ:=
 match x with
 | .exit i=>cond (SF i id) (.ok .norm e m n r w) (.ok (.exit i) e m n r w)
 |x=>.ok x e m n r w
def rz(sel:List Nat)(d:Nat)(x:AX)(e:List AT)(m:μ)(n r w:Nat):CR μ:=
 match x with
 | .norm=>.ok .norm (Ek sel d e) m n r w
 |x=>.ok x e m n r w
def tA(e:List AT)(m:μ)(n:Nat):Option (List AT×Nat)->CR μ
 |some (vs,r)=>.ok (.ret (yM vs)) e m n r 0
 |none=>.no
def IM(E:Nat->Option AFn)(Y:Nat->List AT->μ->Nat->OR μ)(rec:AC->List AT->μ->Nat->CR μ)(c:AC)(e:List AT)(m:μ)(n:Nat):CR μ:=
 AC.casesOn (motive:=λ_=>CR μ) c
  (.ok .norm e m n 0 0)
  (λl=>lj P (im E Y rec) l e m n 0 0)
  (λl bs=>jY P (im E Y rec) l bs 0 [] e m n 0 0)
  (λa b=>kq (rec a e m n) (ke (rec b)))
  (λx a b=>lJ (rec a e m n) (rec b e m n) (ev e x))
  (λid _ b=>kq (rec b e m n) (oR id))
  (λsh b=>kq (rec b e m n) (ke (rec (.loop sh b))))
  (λsel d c=>rec c (Ek sel d e) m n)
  (λc sel d=>kq (rec c e m n) (rz sel d))
  (λid=>.ok (.exit id) e m n 0 0)
  (λrs=>tA e m n (pX e m n rs))
def exec(E:Nat->Option AFn)(Y:Nat->List AT->μ->Nat->OR μ)(k:Nat):AC->List AT->μ->Nat->CR μ:=Nat.rec (motive:=λ_=>AC->List AT->μ->Nat->CR μ) (λ_ _ _ _=>.no) (λ_ ih=>IM P E Y ih) k
end
def acS(w:SE):Prop:=∀p∈aec,∀(i:Nat) (x:AT),p.2[i]?=some x->w.cell? ⟨p.1,i,none⟩=some x
open Go Go.RowKit
def pt(B:Nat)(w:SE):Prop:=∀w',Below B w w'->acS w'
theorem pt.here{B:Nat}{w:SE}(h:pt B w):acS w:=h w (Below.refl B w)
theorem pt.up{B B':Nat}{w:SE}(h:pt B w)(hb:B<=B'):pt B' w:=λw' h'=>h w' (h'.mono hb)
theorem pt.mono{B:Nat}{w w':SE}(h:pt B w)(hb:Below B w w'):pt B w':=λw'' h'=>h w'' (hb.trans h')
structure Place where
 blk:Nat
 base:Nat
 cap:Nat
 sz:Nat
abbrev Ren:=Nat->Option Place
inductive VRel(ρ:Ren):AT->AT->Prop where
 |flat {v:AT} (h:flat v=true):VRel ρ v v
 |ptr {b o:Nat} {p:Place} (h:ρ b=some p):VRel ρ (.pointer (some ⟨b,o,none⟩)) (.pointer (some ⟨p.blk,p.base+o,none⟩))
 |slice {b o n c c':Nat} {p:Place} (h:ρ b=some p) (hn:n<=c') (hu:c=UNK->o+c'*p.sz=p.cap) (hk:c≠UNK->c'=c) (hv:c≠VAG):
   VRel ρ (.slice (some ⟨b,o,none⟩) n c) (.slice (some ⟨p.blk,p.base+o,none⟩) n c')
 |map {b:Nat} {p:Place} (h:ρ b=some p):VRel ρ (.map (some b)) (.map (some p.blk))
 |vag {b o c':Nat} {a':Addr}:VRel ρ (.slice (some ⟨b,o,none⟩) 0 VAG) (.slice (some a') 0 c')
 |func {f:Nat} {a a' c c':Array AT} (h1:a.size=a'.size) (h2:∀(i:Nat) x y,a[i]?=some x->a'[i]?=some y->VRel ρ x y)
   (h3:c.size=c'.size) (h4:∀(i:Nat) x y,c[i]?=some x->c'[i]?=some y->VRel ρ x y):VRel ρ (.func (.func f) a c) (.func (.func f) a' c')
 |agg {a a':Array AT} (h1:a.size=a'.size) (h2:∀(i:Nat) x y,a[i]?=some x->a'[i]?=some y->VRel ρ x y):VRel ρ (.agg a) (.agg a')
 |tuple {a a':Array AT} (h1:a.size=a'.size) (h2:∀(i:Nat) x y,a[i]?=some x->a'[i]?=some y->VRel ρ x y):VRel ρ (.tuple a) (.tuple a')
 |opq {t:TypeId} {x:AT}:VRel ρ (.iface 0 .nilIface) (.iface t x)
def Ren.le(ρ ρ':Ren):Prop:=∀b p,ρ b=some p->ρ' b=some p
theorem Ren.le_refl(ρ:Ren):ρ.le ρ:=λ_ _ h=>h
theorem Ren.le_trans{a b c:Ren}(h:a.le b)(k:b.le c):a.le c:=λx p e=>k x p (h x p e)
theorem VRel.mono{ρ ρ':Ren}(hl:ρ.le ρ'){v v':AT}(h:VRel ρ v v'):VRel ρ' v v':=by
 induction h with
 |flat h=>exact .flat h
 |ptr h=>exact .ptr (hl _ _ h)
 |slice h hn hu hk hv=>exact .slice (hl _ _ h) hn hu hk hv
 |map h=>exact .map (hl _ _ h)
 |opq=>exact .opq
 |vag=>exact .vag
 |func h1 _ h3 _ i1 i2=>exact .func h1 i1 h3 i2
 |agg h1 _ ih=>exact .agg h1 ih
 |tuple h1 _ ih=>exact .tuple h1 ih
def gY(ρ:Ren)(l l':List AT):Prop:=l.length=l'.length/\∀(i:Nat) x y,l[i]?=some x->l'[i]?=some y->VRel ρ x y
theorem gY.mono{ρ ρ':Ren}(hl:ρ.le ρ'){l l':List AT}(h:gY ρ l l'):gY ρ' l l':=⟨h.1,λi x y a b=>(h.2 i x y a b).mono hl⟩
theorem gY.nil(ρ:Ren):gY ρ [] []:=⟨rfl,λi x y h=>by simp at h⟩
theorem gY.cons{ρ:Ren}{x y:AT}{l l':List AT}(h:VRel ρ x y)(hl:gY ρ l l'):gY ρ (x::l) (y::l'):=
 ⟨by simp[hl.1],λi a b ha hb=>by
  cases i with
  |zero=>simp at ha hb;subst ha hb;exact h
  |succ i=>simp at ha hb;exact hl.2 i a b ha hb⟩
theorem gY.head{ρ:Ren}{x y:AT}{l l':List AT}(h:gY ρ (x::l) (y::l')):VRel ρ x y/\gY ρ l l':=⟨h.2 0 x y rfl rfl,by simpa using h.1,λi a b ha hb=>h.2 (i+1) a b (by simpa using ha) (by simpa using hb)⟩
theorem gY.cases{ρ:Ren}{P:List AT->List AT->Prop}{l l':List AT}(h:gY ρ l l')(h0:P [] [])(h1:∀x y l l',VRel ρ x y->gY ρ l l'->P (x::l) (y::l')):P l l':=by
 cases l with
 |nil=>cases l' with
  |nil=>exact h0
  |cons y l'=>have:=h.1;simp at this
 |cons x l=>cases l' with
  |nil=>have:=h.1;simp at this
  |cons y l'=>exact h1 x y l l' h.head.1 h.head.2
theorem gY.induct{ρ:Ren}{P:List AT->List AT->Prop}(h0:P [] [])(h1:∀x y l l',VRel ρ x y->gY ρ l l'->P l l'->P (x::l) (y::l')):
  ∀{l l':List AT},gY ρ l l'->P l l'
 |[],[],_=>h0
 |[],_::_,h=>by have:=h.1;simp at this
 |_::_,[],h=>by have:=h.1;simp at this
 |_::_,_::_,h=>h1 _ _ _ _ h.head.1 h.head.2 (gY.induct h0 h1 h.head.2)
theorem gY.append{ρ:Ren}{a a' b b':List AT}(h:gY ρ a a')(k:gY ρ b b'):gY ρ (a++b) (a'++b'):=by exact gY.induct (P:=λa a'=>gY ρ (a++b) (a'++b')) k (λx y l l' hx _ ih=>.cons hx ih) h
theorem gY.get{ρ:Ren}{l l':List AT}(h:gY ρ l l'){i:Nat}{x:AT}(hx:l[i]?=some x):∃y,l'[i]?=some y/\VRel ρ x y:=by
 have hi:i<l.length:=(List.getElem?_eq_some_iff.1 hx).1;have hi':i<l'.length:=by rw[<-h.1];exact hi
 exact⟨l'[i],SH hi',h.2 i _ _ hx (SH hi')⟩
theorem gY.agg{ρ:Ren}{l l':List AT}(h:gY ρ l l'):VRel ρ (.agg l.toArray) (.agg l'.toArray):=.agg (by simp[h.1]) λi x y hx hy=>h.2 i x y (by simpa using hx) (by simpa using hy)
theorem gY.tuple{ρ:Ren}{l l':List AT}(h:gY ρ l l'):VRel ρ (.tuple l.toArray) (.tuple l'.toArray):=.tuple (by simp[h.1]) λi x y hx hy=>h.2 i x y (by simpa using hx) (by simpa using hy)
theorem gY.of_array{ρ:Ren}{a a':Array AT}(h1:a.size=a'.size)(h2:∀(i:Nat) x y,a[i]?=some x->a'[i]?=some y->VRel ρ x y):gY ρ a.toList a'.toList:=⟨by simpa using h1,λi x y hx hy=>h2 i x y (by simpa using hx) (by simpa using hy)⟩
theorem VRel.undef(ρ:Ren):VRel ρ undef undef:=.tuple rfl λi x y h=>by simp at h
theorem VRel.bool(ρ:Ren)(b:Bool):VRel ρ (.bool b) (.bool b):=.flat rfl
theorem VRel.int(ρ:Ren)(k:IntKind)(b:Int):VRel ρ (.int k b) (.int k b):=.flat rfl
theorem VRel.cells{ρ:Ren}{v v':AT}(h:VRel ρ v v'):gY ρ v.cells.toList v'.cells.toList:=by
 cases h with
 |flat h=>
  cases v with
  |agg a=>simp[Am.flat]at h
  |_=>exact .cons (.flat h) (.nil ρ)
 |ptr h=>exact .cons (.ptr h) (.nil ρ)
 |slice h a b c d=>exact .cons (.slice h a b c d) (.nil ρ)
 |map h=>exact .cons (.map h) (.nil ρ)
 |opq=>exact .cons .opq (.nil ρ)
 |vag=>exact .cons .vag (.nil ρ)
 |func a b c d=>exact .cons (.func a b c d) (.nil ρ)
 |agg a b=>exact gY.of_array a b
 |tuple a b=>exact .cons (.tuple a b) (.nil ρ)
theorem VRel.gQ{ρ:Ren}{v v':AT}(h:VRel ρ v v')(hf:Am.flat v=true):v'=v:=by cases h<;>simp_all [Am.flat]
theorem VRel.uE{ρ:Ren}{a a':Array AT}(h1:a.size=a'.size)(h2:∀(i:Nat) x y,a[i]?=some x->a'[i]?=some y->VRel ρ x y)(hf:a.toList.all Am.flat=true):a'=a:=by apply Array.ext h1.symm;intro i hi hi';have hx:a[i]?=some a[i]:=SM hi';have hy:a'[i]?=some a'[i]:=SM hi;refine(h2 i _ _ hx hy).gQ ?_;rw[Tv]at hf;exact hf _ (by simp)
theorem VRel.qy{ρ:Ren}{v v':AT}(h:VRel ρ v v')(hf:gy v=true):v'=v:=by
 cases h with
 |flat _=>rfl
 |ptr _=>simp[gy,Am.flat]at hf
 |slice _ _ _ _ _=>simp[gy,Am.flat]at hf
 |map _=>simp[gy,Am.flat]at hf
 |opq=>simp[gy,Am.flat]at hf
 |vag=>simp[gy,Am.flat]at hf
 |func h1 h2 h3 h4=>
  rename_i f a a' c c'
  have ha:a=#[]:=by
   cases a with|mk l=>cases l with
    |nil=>rfl
    |cons x l=>simp[gy]at hf
  have hc:c=#[]:=by
   subst ha
   cases c with|mk l=>cases l with
    |nil=>rfl
    |cons x l=>simp[gy]at hf
  subst ha hc;have e1:a'=#[]:=by simpa using h1.symm
  have e2:c'=#[]:=by simpa using h3.symm
  rw[e1,e2]
 |agg h1 h2=>exact congrArg _ (VRel.uE h1 h2 (by simpa[gy]using hf))
 |tuple h1 h2=>exact congrArg _ (VRel.uE h1 h2 (by simpa[gy]using hf))
theorem VRel.one{ρ:Ren}{v v':AT}(h:VRel ρ v v')(ho:Am.one v=true):v'.oneCell'=true:=by
 cases h with
 |flat h=>cases v<;>simp_all [Am.one,Value.oneCell',Am.flat]
 |ptr h=>rfl
 |slice h a b c d=>rfl
 |map h=>rfl
 |opq=>rfl
 |vag=>rfl
 |func a b c d=>rfl
 |agg a b=>simp[Am.one]at ho
 |tuple a b=>simp[Am.one]at ho
def Bn(es:Array MapEntry)(c:Nat):Prop:=(∀x∈es.toList,x.born<c)/\(es.toList.map (·.born)).Nodup
def nA(ρ:Ren)(w:SE)(B:Nat)(p:Place):Blk->Prop
 | .cells c sz opn wr=>p.sz=sz/\∃cc e fz,w.heap[p.blk]?=some (.cells cc e fz)/\
   (∀(i:Nat) x,c[i]?=some x->∃y,cc[p.base+i]?=some y/\VRel ρ x y)/\(wr=true->B<=p.blk/\fz=(0,0))/\(opn=true->p.base+p.cap<=cc.size)/\p.base+c.length<=cc.size
 | .map es=>B<=p.blk/\∃es' clock,w.heap[p.blk]?=some (.map es' clock)/\es'.toList.map (·.key)=es.map (·.1)/\gY ρ (es.map (·.2)) (es'.toList.map (·.val))/\Bn es' clock
def Blk.sz:Blk->Nat
 | .cells _ sz _ _=>sz
 | .map _=>0
def Blk.wr:Blk->Bool
 | .cells _ _ _ wr=>wr
 | .map _=>true
structure MRel(ρ:Ren)(V:Nat->Option Blk)(w:SE)(B:Nat):Prop where
 blk:∀b p O,ρ b=some p->V b=some O->nA ρ w B p O
 ij:∀b1 b2 p1 p2 O1 O2,ρ b1=some p1->ρ b2=some p2->V b1=some O1->V b2=some O2->b1≠b2->O1.wr=true->p1.blk≠p2.blk
 fresh:∀b p,ρ b=some p->p.blk<w.heap.size
 le:B<=w.heap.size
 gl:pt B w
theorem nA.mono{ρ ρ':Ren}(hl:ρ.le ρ'){w w':SE}{B:Nat}{p:Place}{O:Blk}(h:nA ρ w B p O)(hw:w'.heap[p.blk]?=w.heap[p.blk]?):nA ρ' w' B p O:=by
 cases O with
 |cells c sz opn wr=>obtain⟨h1,cc,e,fz,h2,h3,h4⟩:=h;exact⟨h1,cc,e,fz,hw.trans h2,λi x hx=>let⟨y,a,b⟩:=h3 i x hx;⟨y,a,b.mono hl⟩,h4⟩
 |map es=>obtain⟨h1,es',cl,h2,h3,h4,h5⟩:=h;exact⟨h1,es',cl,hw.trans h2,h3,h4.mono hl,h5⟩
def upd{μ:Type}[AMem μ](V:Nat->Option Blk)(W:Nat)(m:μ):Nat->Option Blk:=λb=>if W.testBit b then AMem.get m b else V b
def iX{μ:Type}[AMem μ](V:Nat->Option Blk)(m:μ)(n F:Nat):Prop:=∀b,b<n->F.testBit b=true->V b=AMem.get m b
structure Post{μ:Type}[AMem μ](ρ:Ren)(V:Nat->Option Blk)(w:SE)(B n:Nat)(m':μ)(n' W:Nat)(ρ':Ren)(w':SE):Prop where
 le:ρ.le ρ'
 dom:∀b p,ρ' b=some p->ρ b=some p\/(n<=b/\b<n')
 mrel:MRel ρ' (upd V W m') w' B
 below:Below B w w'
 num:n<=n'
 frame:∀k,k<w.heap.size->(∀b p,ρ b=some p->W.testBit b=true->p.blk≠k)->w'.heap[k]?=w.heap[k]?
 newp:∀b p,ρ' b=some p->ρ b=some p\/w.heap.size<=p.blk\/∃b0 p0,ρ b0=some p0/\W.testBit b0=true/\p0.blk=p.blk
 wold:∀b,W.testBit b=true->(∃p,ρ' b=some p)/\(b<n->∃O,V b=some O/\O.wr=true)
def lN(ρ:Ren)(n:Nat):Prop:=∀b,n<=b->ρ b=none
theorem gx(n b:Nat):(bit n).testBit b=decide (n=b):=by unfold bit;show(1 <<< n).testBit b=_;rw[Nat.one_shiftLeft,Nat.testBit_two_pow]
theorem gv(a c b:Nat):(OF a c).testBit b=(a.testBit b || c.testBit b):=Nat.testBit_or ..
theorem qW{μ:Type}[AMem μ](V:Nat->Option Blk)(m:μ):upd V 0 m=V:=by funext b;simp[upd]
theorem ux(l:List AT)(i:Nat):iA l i=(l[i]?).getD undef:=by
 induction l generalizing i with
 |nil=>rfl
 |cons a l ih=>cases i with
  |zero=>rfl
  |succ i=>exact(ih i).trans (by simp)
theorem kD(l:List AT)(i:Nat):lC l i=l[i]?:=by
 induction l generalizing i with
 |nil=>rfl
 |cons a l ih=>cases i with
  |zero=>rfl
  |succ i=>exact(ih i).trans (by simp)
theorem lR(l:List AT)(i:Nat):nI l i=l.drop i:=by
 induction l generalizing i with
 |nil=>simp;rfl
 |cons a l ih=>cases i with
  |zero=>rfl
  |succ i=>exact(ih i).trans (by simp)
theorem xw(l:List AT):kO l=l.length:=by
 induction l with
 |nil=>rfl
 |cons a l ih=>show Nat.succ (kO l)=_;rw[ih];rfl
theorem jT(l:List AT)(n:Nat):lS l n=if n<=l.length then some (l.take n)else none:=by
 induction l generalizing n with
 |nil=>cases n with
  |zero=>rfl
  |succ n=>rfl
 |cons a l ih=>cases n with
  |zero=>rfl
  |succ n=>
   show nH a (lS l n)=_;rw[ih];by_cases h:n<=l.length
   ·simp[h,nH]
   ·simp[h,nH]
theorem uR{c:List AT}{o n:Nat}{l:List AT}(h:je c o n=some l):o+n<=c.length+(if n=0 then o else 0)/\l.length=n/\∀j,j<n->l[j]?=c[o+j]?:=by
 unfold je at h;rw[jT,lR]at h;split at h
 ·rename_i hn;injection h with h;subst h
  simp at hn;refine⟨by split<;>omega,by simp;omega,λj hj=>?_⟩;rw[UP,if_pos hj,U']
 ·cases h
theorem EH(vs c:List AT):cover vs c=if vs.length<=c.length then some (vs++c.drop vs.length)else none:=by
 induction vs generalizing c with
 |nil=>simp;rfl
 |cons v vs ih=>cases c with
  |nil=>rfl
  |cons x c=>show nH v (cover vs c)=_;rw[ih];by_cases h:vs.length<=c.length<;>simp[h,nH]
theorem setCells_eq(c:List AT)(i:Nat)(vs:List AT):setCells c i vs=if i+vs.length<=c.length then some (c.take i++vs++c.drop (i+vs.length))else none:=by
 induction c generalizing i with
 |nil=>cases i with
  |zero=>show cover vs []=_;rw[EH];simp
  |succ i=>show none=_;simp
 |cons x c ih=>cases i with
  |zero=>show cover vs (x::c)=_;rw[EH];simp
  |succ i=>
   show nH x (setCells c i vs)=_;rw[ih];have e:i+1+vs.length=i+vs.length+1:=by omega
   by_cases h:i+vs.length<=c.length
   ·simp[h,nH,e]
   ·simp[h,nH,e]
theorem BO{c d:List AT}{i:Nat}{vs:List AT}(h:setCells c i vs=some d):
  i+vs.length<=c.length/\d.length=c.length/\∀j,d[j]?=if i<=j/\j<i+vs.length then vs[j-i]? else c[j]?:=by
 rw[setCells_eq]at h;split at h
 ·rename_i hl;injection h with h;subst h
  refine⟨hl,by simp;omega,λj=>?_⟩;rw[S6,X'];by_cases h1:j<i
  ·have:(c.take i).length=i:=by simp;omega
   rw[if_pos (by omega),if_neg (by omega),UP,if_pos h1]
  ·have h2:(c.take i).length=i:=by simp;omega
   rw[if_neg (by omega),h2,X'];by_cases h3:j<i+vs.length
   ·rw[if_pos (by omega),if_pos ⟨by omega,h3⟩]
   ·rw[if_neg (by omega),if_neg (by omega),U']
    congr 1;omega
 ·cases h
theorem aaC(e:List AT)(sel:List Nat)(t:List AT):GH e sel t=sel.map (iA e)++t:=by
 induction sel with
 |nil=>rfl
 |cons a l ih=>show iA e a::GH e l t=_;rw[ih];rfl
theorem sP(z:List AT)(n:Nat):pY z n=(List.replicate n z).flatten:=by
 induction n with
 |zero=>rfl
 |succ n ih=>show z++pY z n=_;rw[ih];rfl
theorem lY(a b:Int):ltB a b=decide (a<b):=by cases a<;>cases b<;>simp only[ltB]<;>rw[UN]<;>simp[UI]<;>omega
theorem rI(a b:Int):eqB a b=decide (a=b):=by cases a<;>cases b<;>simp only[eqB]<;>rw[UN]<;>simp<;>omega
theorem oJ{n:Int}(h:-9223372036854775808<=n)(h':n<9223372036854775808):IntKind.i64.wrap n=n:=by simp[WH,Wp,WI];split<;>omega
theorem jo(k:IntKind)(n:Int):mu k n=k.wrap n:=by
 cases k<;>simp only[mu];cases h:NT n
 ·rfl
 ·have:-9223372036854775808<=n/\n<9223372036854775808:=by cases n<;>simp[NT,UI]at h<;>simp only[Int.ofNat_eq_natCast,Int.negSucc_eq]<;>omega
  exact(oJ this.1 this.2).symm
theorem gX{α:Type}(n:Nat)(k:Nat->α):oq n k=k n:=by cases n<;>rfl
theorem BE{a b:AT}(h:Rq a b=true):a=b/\gy a=true:=by
 unfold Rq at h;split at h
 ·simp at h;subst h;exact⟨rfl,rfl⟩
 ·simp at h;obtain⟨rfl,rfl⟩:=h;exact⟨rfl,rfl⟩
 ·simp at h;rename_i a b;have:a=b:=by cases a with|mk a=>cases b with|mk b=>exact congrArg _ (US (by simpa using h))
  subst this;exact⟨rfl,rfl⟩
 ·exact⟨rfl,rfl⟩
 ·exact⟨rfl,rfl⟩
 ·exact⟨rfl,rfl⟩
 ·exact⟨rfl,rfl⟩
 ·exact⟨rfl,rfl⟩
 ·rename_i f a c g a' c';simp at h;obtain⟨⟨⟨⟨h1,h2⟩,h3⟩,h4⟩,h5⟩:=h;subst h1 h2;subst h3 h4 h5;exact⟨rfl,rfl⟩
 ·cases h
theorem kE(ρ:Ren){v:AT}(h:gy v=true):VRel ρ v v:=by
 have arr:∀{a:Array AT},a.toList.all flat=true->∀(i:Nat) x y,a[i]?=some x->a[i]?=some y->VRel ρ x y:=by
  intro a ha i x y hx hy;rw[hx]at hy;injection hy with hy;subst hy
  rw[Tv]at ha;exact .flat (ha x (by have:=Array.mem_of_getElem? hx;simpa using this))
 cases v with
 |agg a=>exact .agg rfl (arr (by simpa[gy]using h))
 |tuple a=>exact .tuple rfl (arr (by simpa[gy]using h))
 |func fn a c=>cases fn<;>simp[gy,flat]at h;obtain⟨h1,h2⟩:=h;subst h1 h2;exact .func rfl (λi x y h=>by simp at h) rfl (λi x y h=>by simp at h)
 |_=>exact .flat (by simpa[gy]using h)
theorem FJ{a b:AT}(h:veq a b=true):a=b:=by
 have hl:∀{x y:List AT},qU x y=true->x=y:=by
  intro x
  induction x with
  |nil=>intro y h;cases y with
   |nil=>rfl
   |cons=>simp[qU]at h
  |cons x l ih=>intro y h;cases y with
   |nil=>simp[qU]at h
   |cons y l'=>simp[qU]at h;rw[(BE h.1).1,ih h.2]
 unfold veq at h;split at h
 ·exact congrArg _ (US (hl h))
 ·exact congrArg _ (US (hl h))
 ·exact(BE h).1
end Go.Am
