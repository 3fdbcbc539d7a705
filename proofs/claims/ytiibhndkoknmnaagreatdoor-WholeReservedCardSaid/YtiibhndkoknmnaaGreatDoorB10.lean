/- The machine and its runs, part 10. -/
import Derived.Laws.Strings
import Derived.Test.YtiibhndkoknmnaaGreatDoorB9
set_option linter.unusedVariables false
set_option linter.unusedSimpArgs false
open Go renaming Value→AT,Program→SZ
open Nat renaming mod→SL,reduceAdd→to,testBit→U5,reduceShiftRight→AS,reduceAnd→By,reduceBNe→BY,le_refl→IN,le_succ→Tf,beq→SF,reduceMul→IS,lor→OF,add_zero→Ve,beq_refl→UA,ble→Tj,blt→Te,zero_le→Tq,ble_eq_true_of_le→UM
open Bool renaming and_eq_true→No
open List renaming mem_append_left→Uf,flatMap_cons→TO,flatMap_nil→We,append_nil→SN,nil_append→SJ,length_cons→SA,cons_append→SK,drop_succ_cons→VK,drop_eq_getElem_cons→Tx,length_append→IT,getElem_mem→Tb,append_assoc→S6,ext_getElem→Wn,count_append→TH,length_map→SC,count_le_length→Yc,replicate→U2,mem_cons_of_mem→SQ,mem_map→Us,getElem_map→Wo,getElem_range→Yj,getElem?_eq_getElem→SH
open Go.ByteArray renaming toList_eq→XF
open Go.Am.AMem renaming put→If
namespace Go.Am.CR
set_option maxRecDepth 100000
open Go Go.Am
variable{Y:Nat->List AT->FM->Nat->OR FM}
variable{v lv tv rv:AT}{N n N' S s k a j n0 f b ob:Nat}{M m M':FM}{P A B:List Pr}{cs l:List Int}{o w:Bool}{c args:List AT}{sl l' q:List Nat}
theorem gN{fn:AFn}{R:AT->FM->Nat->Prop}(hE:EL f=some fn)(ha:kO args=fn.na)(hR:∀v m' n',gy v=true->R v m' n'->R v m n)(h:∀Q:AX->List AT->FM->Nat->Nat->Prop,(∀v e m' n' w,n<=n'->(∀b,b<n->m' b=m b)->SL w (bit n)=0->R v m' n'->Q (.ret v) e m' n' w)->Wr PG EL Y [] 0 (gD PG EL Y fn.code args m n) Q):Kp (fL PG EL Y f args m n) m n R:=mT hE ha λQ hQ=>h Q λv e m' n' w h1 h2 h3 h4=>hQ v e m' n' w h1 h2 h3 (λ_=>h4) λhf=>hR _ _ _ hf h4
theorem TL.nil(M:FM)(N:Nat):TL M N (.pointer none) []:=⟨.nil,rfl,rfl⟩
theorem TL.flat{L:List Ex}(h:TL M N v L)(hv:Am.flat v=true):TL M' N' v L:=by
 obtain⟨t,h,rfl⟩:=h
 cases t with
 |nil=>have hv:v=.pointer none:=h;subst hv;exact⟨.nil,rfl,rfl⟩
 |nd l x r=>obtain⟨b,lv,rv,rfl,_⟩:=h;cases hv
theorem wM(k:Nat):iW k (.pointer none)=true:=rfl
theorem pF(a:Addr):nk PG .neq 139 (.pointer (some a)) (.pointer none)=some (.bool true):=by show cond (lK PG 139) (mQ .neq false) none=_;rw[show lK PG 139=true by kernel_rfl];rfl
theorem tL:nk PG .neq 139 (.pointer none) (.pointer none)=some (.bool false):=by show cond (lK PG 139) (mQ .neq true) none=_;rw[show lK PG 139=true by kernel_rfl];rfl
def TP(M:FM)(N:Nat)(v:AT)(P:List Pr):Prop:=∃L,TL M N v L/\VL L/\prs L=P
theorem TP.nil(M:FM)(N:Nat):TP M N (.pointer none) []:=⟨[],TL.nil M N,.nil,rfl⟩
theorem TP.frame{M':FM}{N N':Nat}(h:TP M N v P)(hN:N<=N')(hf:∀b,b<N->M' b=M b):TP M' N' v P:=let⟨t,h1,h2⟩:=h;⟨t,h1.frame hN hf,h2⟩
theorem TP.gO(h:TP M N v P):∀k,N<=k->iW k v=true:=let⟨_,h,_⟩:=h;h.gO
theorem TP.gU(h:TP M N v P):∀k,N<=k->jz k v=true:=let⟨_,h,_⟩:=h;h.gU
theorem TP.one(h:TP M N v P):Am.one v=true:=let⟨_,h,_⟩:=h;h.one
theorem TP.BL(h:TP M N v P):SP P:=by obtain⟨t,_,h2,rfl⟩:=h;exact h2.BL
theorem TP.flat(h:TP M N v P)(hv:Am.flat v=true):TP M' N' v P:=let⟨t,h1,h2⟩:=h;⟨t,h1.flat hv,h2⟩
def TP2(M:FM)(N:Nat)(v:AT)(P Q:List Pr):Prop:=∃lv rv,v=.tuple #[lv,rv]/\TP M N lv P/\TP M N rv Q
theorem TP2.free{Q:List Pr}(hv:gy v=true)(h:TP2 M N v P Q):TP2 M' N' v P Q:=by obtain⟨lv,rv,rfl,h1,h2⟩:=h;have hv:(Am.flat lv&&(Am.flat rv&&true))=true:=hv;rw[No,No]at hv;exact⟨lv,rv,rfl,h1.flat hv.1,h2.flat hv.2.1⟩
theorem zo{x:Ex}(hl:TP m n lv A)(hr:TP m n rv B)(hx:x.ok)(h1:∀p∈A,p.1<x.a)(h2:∀p∈B,x.a+x.n<=p.1):
  Kp (fL PG EL Y 251 [lv,.agg x.cs.toArray,rv] m n) m n λv m' n'=>TP m' n' v (A++(x.pr++B))/\gy v=false:=by
 obtain⟨L,hl,vl,rfl⟩:=hl;obtain⟨R,hr,vr,rfl⟩:=hr;have h3:VL (x::R):=VL.append (A:=[x]) (VL.one hx) vr λp hp q hq=>by have:=Ex.iH.1 (show p∈x.pr by simpa[prs]using hp);have:=h2 q hq;omega
 have h4:VL (L++x::R):=vl.append h3 λp hp q hq=>by
  have:=h1 p hp;rcases List.mem_append.1 (show q∈x.pr++prs R from hq)with hq|hq
  ·have:=Ex.iH.1 hq;omega
  ·have:=h2 q hq;omega
 refine(s7 hl hr h4.bd).mono λv m' n' h=>⟨⟨_,h,h4,by rw[iZ,jq]⟩,h.af Cf⟩
theorem TrR.tp{t:Tr}(h:TrR M N v t)(hv:VL t.list):TP M N v (prs t.list):=⟨_,⟨t,h,rfl⟩,hv,rfl⟩
theorem Mp:∀(t:Tr) (a:Nat) (m:FM) (n:Nat) (v:AT),TrR m n v t->VL t.list->a<=1000000->
  Kp (fL PG EL Y 247 [v,.int .i64 (a:Int)] m n) m n λv m' n'=>TP2 m' n' v (jK a (prs t.list)) (iC a (prs t.list)):=by
 intro t
 induction t with
 |nil=>intro a m n v h hV ha;have hv:v=.pointer none:=h;subst hv;refine gN (R:=λv m' n'=>TP2 m' n' v (jK a (prs Tr.nil.list)) (iC a (prs Tr.nil.list))) e247 rfl (λ_ _ _ h1 h2=>TP2.free h1 h2) λQ hQ=>?_;simp only[Jc];simp(disch:=omega)only[W_,eu,to,U5,AS,By,BY,lh];exact hQ _ _ _ _ _ (IN _) (λ_ _=>rfl) (by simp[eR]) ⟨_,_,rfl,TP.nil _ _,TP.nil _ _⟩
 |nd l x r ihl ihr=>
  intro a m n v h hV ha;refine gN (R:=λv m' n'=>TP2 m' n' v (jK a (prs (Tr.nd l x r).list)) (iC a (prs (Tr.nd l x r).list))) e247 rfl (λ_ _ _ h1 h2=>TP2.free h1 h2) λQ hQ=>?_;obtain⟨b,lv,rv,rfl,hb,hm,hl,hr⟩:=h;simp only[ndC]at hm;have hx:x.ok:=hV.1 x (by simp[Tr.list]);have hL:(Tr.nd l x r).list=l.list++x::r.list:=rfl;rw[hL]at hQ hV;have vr:VL r.list:=hV.right.tail;have xl:∀p∈prs l.list,p.1<x.a:=λp hp=>hV.before p hp (x.a,x.s) (by rw[jq];exact Uf _ (Ex.iH.2 ⟨IN _,Nat.lt_add_of_pos_right hx.1,rfl⟩))
  have xr:∀p∈prs r.list,x.a+x.n<=p.1:=λp hp=>by
   have:=VL.before (A:=[x]) hV.right (x.a+(x.n-1),x.s+(x.n-1)) (by
    have:=hx.1;simp only[prs,TO,We,SN]
    exact Ex.iH.2 ⟨by dsimp only;omega,by dsimp only;omega,by dsimp only;omega⟩) p hp
   have:=hx.1;omega
  unfold Ex.ok at hx;have q1:=hl.gO;have o1:=hl.one;have q2:=hr.gO;have o2:=hr.one;have hP:prs (l.list++x::r.list)=prs l.list++(x.pr++prs r.list):=by rw[iZ,jq]
  rw[hP,rD,rD,qv,qv]at hQ;have tl:=hl.tp hV.left;have tr:=hr.tp vr;simp only[Jc];simp(disch:=omega)only[W_,eu,to,U5,AS,By,BY,mm,hm];have l1:∀k,k<n->(If m n (some (.cells [.int .i64 (x.a:Int),.int .i64 (x.n:Int),.int .i64 (x.s:Int)] 0 false true)):FM) k=m k:=λk hk=>gu;have t0:=eB m n (some (.cells [.int .i64 (x.a:Int),.int .i64 (x.n:Int),.int .i64 (x.s:Int)] 0 false true));revert l1 t0;generalize (If m n (some (.cells [.int .i64 (x.a:Int),.int .i64 (x.n:Int),.int .i64 (x.s:Int)] 0 false true)):FM)=M;intro l1 t0;have hm1:=(l1 b hb).trans hm;have hl0:=hl.frame (Tf n) l1;have hr0:=hr.frame (Tf n) l1;by_cases c1:a<=x.a
  ·simp(disch:=omega)only[W_,eu,to,U5,AS,By,BY,hm1,t0];refine fI (ihl a M (n+1) lv hl0 hV.left ha) λv1 M1 n1 r1 w1 ⟨k1,f1,g1,lv1,rv1,hv1,T1,T2⟩=>?_;subst hv1;have t1:=(f1 n (by omega)).trans t0;have hm2:=(f1 b (by omega)).trans hm1;simp(disch:=omega)only[W_,eu,to,U5,AS,By,BY,t1,hm2,q1,o1,q2,o2,T1.gO,T2.gO];refine gP (zo (x:=x) T2 (tr.frame (by omega) λk hk=>(f1 k (by omega)).trans (l1 k hk)) hx (λp hp=>xl p (kK.1 hp).1) xr) λv2 M2 n2 r2 w2 ⟨k2,f2,g2,R2,_⟩=>?_;have p2:=R2.gO;simp(disch:=omega)only[W_,eu,to,U5,AS,By,BY,p2,R2.one,T1.gO];refine hQ _ _ _ _ _ (by omega) (λk hk=>(f2 k (by omega)).trans ((f1 k (by omega)).trans (l1 k hk))) (by simp(disch:=omega)only[fB,eS,eR,and_self,g1,g2]) ⟨_,_,rfl,?_,?_⟩
   ·rw[show jK a x.pr=[]from Ex.Iq c1,vF (P:=prs r.list) λp hp=>by have:=xr p hp;omega,SN,SN];exact T1.frame k2 f2
   ·rw[show iC a x.pr=x.pr from Ex.DM c1,s8 (P:=prs r.list) λp hp=>by have:=xr p hp;omega];exact R2
  by_cases c2:x.a+x.n<=a
  ·simp(disch:=omega)only[W_,eu,to,U5,AS,By,BY,hm1,t0];refine fI (ihr a M (n+1) rv hr0 vr ha) λv1 M1 n1 r1 w1 ⟨k1,f1,g1,lv1,rv1,hv1,T1,T2⟩=>?_;subst hv1;have t1:=(f1 n (by omega)).trans t0;have hm2:=(f1 b (by omega)).trans hm1;simp(disch:=omega)only[W_,eu,to,U5,AS,By,BY,t1,hm2,q1,o1,q2,o2,T1.gO,T2.gO];refine gP (zo (x:=x) (tl.frame (by omega) λk hk=>(f1 k (by omega)).trans (l1 k hk)) T1 hx xl (λp hp=>xr p (nc.1 hp).1)) λv2 M2 n2 r2 w2 ⟨k2,f2,g2,R2,_⟩=>?_;have p2:=R2.gO;simp(disch:=omega)only[W_,eu,to,U5,AS,By,BY,p2,R2.one,T2.gO];refine hQ _ _ _ _ _ (by omega) (λk hk=>(f2 k (by omega)).trans ((f1 k (by omega)).trans (l1 k hk))) (by simp(disch:=omega)only[fB,eS,eR,and_self,g1,g2]) ⟨_,_,rfl,?_,?_⟩
   ·rw[show jK a x.pr=x.pr from Ex.MS c2,zi (P:=prs l.list) λp hp=>by have:=xl p hp;omega];exact R2
   ·rw[show iC a x.pr=[]from Ex.Ip c2,zp (P:=prs l.list) λp hp=>by have:=xl p hp;omega,SJ,SJ];exact T2.frame k2 f2
  ·have hcut:=x.MU (k:=a-x.a) (by omega);rw[show x.a+(a-x.a)=a by omega]at hcut;have e1:jK a x.pr=(⟨x.a,a-x.a,x.s⟩:Ex).pr:=by rw[hcut,rD,show jK a (Ex.pr ⟨x.a,a-x.a,x.s⟩)=_ from Ex.MS (by dsimp only;omega),show jK a (Ex.pr ⟨a,x.n-(a-x.a),x.s+(a-x.a)⟩)=[]from Ex.Iq (IN _),SN]
   have e2:iC a x.pr=(⟨a,x.n-(a-x.a),x.s+(a-x.a)⟩:Ex).pr:=by rw[hcut,qv,show iC a (Ex.pr ⟨x.a,a-x.a,x.s⟩)=[]from Ex.Ip (by dsimp only;omega),show iC a (Ex.pr ⟨a,x.n-(a-x.a),x.s+(a-x.a)⟩)=_ from Ex.DM (IN _),SJ]
   simp(disch:=omega)only[W_,eu,to,U5,AS,By,BY,hm1,t0,q1,q2,o1,o2,wM];have l3:∀k,k<n+1->(If (If M (n+1) (some (.cells [.int .i64 (x.a:Int),.int .i64 ((a-x.a:Nat):Int),.int .i64 (x.s:Int)] 0 false true))) (n+2) (some (.cells [.int .i64 (a:Int),.int .i64 ((x.n-(a-x.a):Nat):Int),.int .i64 ((x.s+(a-x.a):Nat):Int)] 0 false true)):FM) k=M k:=λk hk=>(en _ _ _ _ (by omega)).trans (en _ _ _ _ (by omega));have t3:=eB (If M (n+1) (some (.cells [.int .i64 (x.a:Int),.int .i64 ((a-x.a:Nat):Int),.int .i64 (x.s:Int)] 0 false true))) (n+2) (some (.cells [.int .i64 (a:Int),.int .i64 ((x.n-(a-x.a):Nat):Int),.int .i64 ((x.s+(a-x.a):Nat):Int)] 0 false true));revert l3 t3;generalize (If (If M (n+1) (some (.cells [.int .i64 (x.a:Int),.int .i64 ((a-x.a:Nat):Int),.int .i64 (x.s:Int)] 0 false true))) (n+2) (some (.cells [.int .i64 (a:Int),.int .i64 ((x.n-(a-x.a):Nat):Int),.int .i64 ((x.s+(a-x.a):Nat):Int)] 0 false true)):FM)=M3;intro l3 t3;have hm3:=(l3 b (by omega)).trans hm1;have fr:∀k,k<n->M3 k=m k:=λk hk=>(l3 k (by omega)).trans (l1 k hk);refine gP (zo (x:=⟨x.a,a-x.a,x.s⟩) (tl.frame (by omega) fr) (TP.nil _ _) (by unfold Ex.ok;dsimp only;omega) xl (λp hp=>by cases hp)) λv2 M2 n2 r2 w2 ⟨k2,f2,g2,R2,_⟩=>?_;have L1:=gE (g2 (n+3) (by omega)) (show n+1<n+3 by omega);have L2:=gE (g2 (n+3) (by omega)) (show n+2<n+3 by omega);have L3:=gE (g2 (n+3) (by omega)) (show b<n+3 by omega);have t4:=(f2 (n+2) (by omega)).trans t3;have hm4:=(f2 b (by omega)).trans hm3;have p2:=R2.gO;simp(disch:=omega)only[W_,eu,to,U5,AS,By,BY,t4,hm4,p2,R2.one,L1.1,L1.2,L2.1,L2.2,L3.1,L3.2,q2,o2,wM];refine gP (zo (x:=⟨a,x.n-(a-x.a),x.s+(a-x.a)⟩) (TP.nil _ _) (tr.frame (by omega) λk hk=>(f2 k (by omega)).trans (fr k hk)) (by unfold Ex.ok;dsimp only;omega) (λp hp=>by cases hp) (λp hp=>by have:=xr p hp;dsimp only;omega)) λv5 M5 n5 r5 w5 ⟨k5,f5,g5,R5,_⟩=>?_;have p5:=R5.gO;simp(disch:=omega)only[W_,eu,to,U5,AS,By,BY,p2,p5,R5.one,R2.one];refine hQ _ _ _ _ _ (by omega) (λk hk=>(f5 k (by omega)).trans ((f2 k (by omega)).trans (fr k hk))) (by simp(disch:=omega)only[fB,eS,eR,and_self,g2,g5]) ⟨_,_,rfl,?_,?_⟩
   ·rw[e1,vF (P:=prs r.list) λp hp=>by have:=xr p hp;omega,zi (P:=prs l.list) λp hp=>by have:=xl p hp;omega];simpa using R2.frame k5 f5
   ·rw[e2,zp (P:=prs l.list) λp hp=>by have:=xl p hp;omega,s8 (P:=prs r.list) λp hp=>by have:=xr p hp;omega];simpa using R5
theorem xg{a:Nat}(h:TP m n v P)(ha:a<=1000000):
  Kp (fL PG EL Y 247 [v,.int .i64 (a:Int)] m n) m n λv m' n'=>TP2 m' n' v (jK a P) (iC a P):=by
 obtain⟨L,⟨t,h,rfl⟩,hv,rfl⟩:=h;exact Mp t a m n v h hv ha
theorem jO{P:SZ}{E:Nat->Option AFn}{k0:Nat}{fn:AFn}{R:AT->FM->Nat->Nat->Prop}(hE:E f=some fn)(ha:kO args=fn.na)(hk0:k0<n)(h:∀Q:AX->List AT->FM->Nat->Nat->Prop,(∀v e m' n' w,U5 w k0=true->R v m' n' w->Q (.ret v) e m' n' w)->Wr P E Y [] 0 (gD P E Y fn.code args m n) Q):Rt (fL P E Y f args m n) λv m' n' w=>U5 w k0=true/\R v m' n' w:=by
 rw[lT hE ha];obtain⟨X,e',m',n',r,w,hx,v,rfl,h1,h2⟩:=kF (kG (h (λX _ m' n' w=>∃v,X=.ret v/\U5 w k0=true/\R v m' n' w) λv _ m' n' w k1 k2=>⟨v,rfl,k1,k2⟩));rw[hx,lz];have hn:¬SL w (bit n)=0:=λhw=>by rw[iO hw k0 hk0]at h1;cases h1
 have:iI m n v m' n' r w=.ok v m' n' r w:=by
  unfold iI
  have hc:(gy v&&SF (SL w (bit n)) 0)=false:=by
   cases h3:gy v
   ·rfl
   ·cases h4:SF (SL w (bit n)) 0
    ·rfl
    ·exact absurd (Nat.eq_of_beq_eq_true h4) hn
  rw[hc];rfl
 rw[this];exact⟨h1,h2⟩
def exC:List Ex->List AT
 |[]=>[]
 |x::xs=>.int .i64 (x.a:Int)::.int .i64 (x.n:Int)::.int .i64 (x.s:Int)::exC xs
theorem jA:∀l:List Ex,(exC l).length=l.length*3
 |[]=>rfl
 |x::xs=>by simp only[exC,SA,jA xs];omega
theorem nM:∀a b:List Ex,exC (a++b)=exC a++exC b
 |[],b=>rfl
 |x::xs,b=>by simp only[exC,SK,nM xs b]
theorem tb:∀l:List Ex,(exC l).all Am.one=true
 |[]=>rfl
 |x::xs=>by simp only[exC,List.all_cons,tb xs];rfl
theorem N6(l:List Ex)(R:List AT):∀j,j<=l.length->(exC l++R).drop (j*3)=exC (l.drop j)++R:=by
 induction l with
 |nil=>intro j hj;have:j=0:=by simpa using hj
       subst this;simp[exC]
 |cons x xs ih=>
  intro j hj
  cases j with
  |zero=>simp
  |succ j=>rw[show(j+1)*3=j*3+1+1+1 by omega,exC,SK,SK,SK,VK,VK,VK,ih j (by simpa using hj),VK]
theorem jF{l:List Ex}{j:Nat}(R:List AT)(h:j<l.length):nI (exC l++R) (j*3)=.int .i64 (l[j].a:Int)::.int .i64 (l[j].n:Int)::.int .i64 (l[j].s:Int)::(exC (l.drop (j+1))++R)/\lC (exC l++R) (j*3)=some (.int .i64 (l[j].a:Int))/\lC (exC l++R) (j*3+1)=some (.int .i64 (l[j].n:Int))/\lC (exC l++R) (j*3+2)=some (.int .i64 (l[j].s:Int)):=by
 have e:(exC l++R).drop (j*3)=.int .i64 (l[j].a:Int)::.int .i64 (l[j].n:Int)::.int .i64 (l[j].s:Int)::(exC (l.drop (j+1))++R):=by rw[N6 l R j (by omega),Tx h,exC];rfl
 have g:∀k,lC (exC l++R) (j*3+k)=((exC l++R).drop (j*3))[k]?:=λk=>by rw[kD,List.getElem?_drop]
 refine⟨?_,by have:=g 0;rw[e]at this;exact this,by have:=g 1;rw[e]at this;exact this,by have:=g 2;rw[e]at this;exact this⟩;rw[lR,e]
def Exs(M:FM)(N:Nat)(v:AT)(L:List Ex):Prop:=(L=[]/\v=.slice none 0 0)\/∃b k rest opn wr,v=.slice (some ⟨b,0,none⟩) L.length k/\b<N/\M b=some (.cells (exC L++rest) 3 opn wr)
theorem Exs.nil(M:FM)(N:Nat):Exs M N (.slice none 0 0) []:=.inl ⟨rfl,rfl⟩
theorem Exs.frame{M':FM}{N N':Nat}{L:List Ex}(h:Exs M N v L)(hN:N<=N')(hf:∀b,b<N->M' b=M b):Exs M' N' v L:=h.imp id λ⟨b,k,rest,opn,wr,h1,h2,h3⟩=>⟨b,k,rest,opn,wr,h1,by omega,(hf b h2).trans h3⟩
theorem Exs.len{L:List Ex}(h:Exs M N v L):qR false v=some (.int .i64 (L.length:Int)):=by rcases h with⟨rfl,rfl⟩|⟨b,k,rest,opn,wr,rfl,_⟩<;>rfl
theorem Exs.one{L:List Ex}(h:Exs M N v L):Am.one v=true:=by rcases h with⟨rfl,rfl⟩|⟨b,k,rest,opn,wr,rfl,_⟩<;>rfl
theorem Exs.gO{L:List Ex}(h:Exs M N v L):∀k,N<=k->iW k v=true:=λk hk=>by
 rcases h with⟨rfl,rfl⟩|⟨b,_,rest,opn,wr,rfl,hb,_⟩
 ·rfl
 ·exact gI (show b<k by omega)
theorem Exs.gU{L:List Ex}(h:Exs M N v L):∀k,N<=k->jz k v=true:=λk hk=>by
 rcases h with⟨rfl,rfl⟩|⟨b,_,rest,opn,wr,rfl,hb,_⟩
 ·rfl
 ·exact gI (show b<k by omega)
theorem Exs.free{L:List Ex}(h:Exs M N v L)(hv:gy v=true):Exs M' N' v L:=by
 rcases h with h|⟨b,_,rest,opn,wr,rfl,hb,_⟩
 ·exact .inl h
 ·cases hv
theorem Exs.at{L:List Ex}(h:Exs M N v L)(h0:0<L.length):∃b rest opn wr,(∀j,j<L.length->vJ 3 j v=some (.pointer (some ⟨b,j*3,none⟩)))/\b<N/\M b=some (.cells (exC L++rest) 3 opn wr):=by
 rcases h with⟨rfl,_⟩|⟨b,k,rest,opn,wr,rfl,hb,hm⟩
 ·simp at h0
 ·exact⟨b,rest,opn,wr,λj hj=>by rw[rG hj,Nat.zero_add],hb,hm⟩
theorem SlZ.exs{L:List Ex}(h:SlZ 3 M n0 N v L.length (exC L)):Exs M N v L:=by
 rcases h with⟨h0,_,rfl⟩|⟨_,_,b,rfl,_,hb,hm⟩
 ·exact .inl ⟨List.length_eq_zero_iff.1 h0,rfl⟩
 ·exact .inr ⟨b,_,[],true,true,rfl,hb,by rw[SN];exact hm⟩
theorem rQ{L:List Ex}(h:SlZ 3 M n0 N v L.length (exC L))(x:Ex)(ya:Option Addr)(yc ry:Nat)(h0:n0<=N)(hl:L.length<=1000000):
  Rt (nl 3 24 M N v (.slice ya 1 yc) (shown M N 3 v) (some ([.int .i64 (x.a:Int),.int .i64 (x.n:Int),.int .i64 (x.s:Int)],ry))) λv' M' N' w=>N'=N+1/\SlZ 3 M' n0 N' v' (L++[x]).length (exC (L++[x]))/\(∀b,b<n0->M' b=M b)/\∀j,j<=n0->SL w (bit j)=0:=by
 refine(CO (zs:=[.int .i64 (x.a:Int),.int .i64 (x.n:Int),.int .i64 (x.s:Int)]) h ya yc ry h0 (by omega) rfl rfl (by omega) (by omega)).mono λv' M' N' w hA=>⟨hA.n,?_,hA.low,hA.w⟩;have:=hA.s;rw[nM,IT];exact this
theorem oN{P:SZ}{rec:Nat->List AT->FM->Nat->OR FM}(e:List AT)(m:FM)(n:Nat)(x:Opd)(args:List Opd):gV P rec e m n (.callv x args)=oC rec (evs e args) m n (ev e x):=rfl
theorem yA{P:SZ}{rec:Nat->List AT->FM->Nat->OR FM}(e:List AT)(m:FM)(n f:Nat)(a c:List Opd):gV P rec e m n (.func f a c)=.ok (.func (.func f) (evs e a).toArray (evs e c).toArray) m n 0 0:=rfl
theorem GJ{L:List Ex}(x:Ex)(hn:n0<N)(hb:M n0=some (.cells [v] 0 false true))(h:SlZ 3 M (n0+1) N v L.length (exC L))(hl:L.length<=1000000):
  Rt (fL PG EL Y 329 [.agg x.cs.toArray,.pointer (some ⟨n0,0,none⟩)] M N) λr M' N' w=>U5 w n0=true/\(r=.bool true/\N<=N'/\(∀b,b<n0->M' b=M b)/\(∀j,j<=n0->SL w (bit j)=0)/\∃v',M' n0=some (.cells [v'] 0 false true)/\SlZ 3 M' (n0+1) N' v' (L++[x]).length (exC (L++[x]))):=by
 refine jO e329 rfl hn λQ hQ=>?_;simp only[PD,Ex.cs];have o:=h.one;simp(disch:=omega)only[W_,eu,to,IS,o,hb];refine fI (rQ (h.frame (N':=N+2) (by omega) λb _ hb=>(en _ _ _ _ (by omega)).trans (en _ _ _ _ (by omega))) x _ _ _ (by omega) hl) λv1 M1 n1 r1 w1 ⟨hn1,S1,f1,g1⟩=>?_;subst hn1;have t1:=(f1 n0 (by omega)).trans (((en _ _ _ _ (by omega)).trans (en _ _ _ _ (by omega))).trans hb);simp(disch:=omega)only[W_,eu,to,IS,t1,S1.one,dW S1.one];refine hQ _ _ _ _ _ (by simp only[gv,gx];simp) ⟨rfl,by omega,λb hb=>gJ (by omega) ((f1 b (by omega)).trans ((en _ _ _ _ (by omega)).trans (en _ _ _ _ (by omega)))),λj hj=>(by simp(disch:=omega)only[fB,eS,eR,and_self,g1]),v1,eB _ _ _,S1.frame (IN _) λb h1 h2=>gu⟩
def WL(M:FM)(n0 N:Nat)(L:List Ex):Prop:=∃sv,M n0=some (.cells [sv] 0 false true)/\SlZ 3 M (n0+1) N sv L.length (exC L)
def yl(n0:Nat):AT:=.func (.func 329) #[] #[.pointer (some ⟨n0,0,none⟩)]
theorem Js:∀(t:Tr) (v:AT) (m:FM) (n n0:Nat) (L:List Ex),TrR m n0 v t->n0<n->WL m n0 n L->L.length+t.cnt<=1000000->Rt (fL PG EL Y 196 [v,yl n0] m n) λr m' n' w=>r=.bool true/\n<=n'/\(∀b,b<n0->m' b=m b)/\(∀j,j<=n0->SL w (bit j)=0)/\WL m' n0 n' (L++t.list):=by
 intro t
 induction t with
 |nil=>
  intro v m n n0 L h hn hL hl;have hv:v=.pointer none:=h;subst hv;have hp:Pure (fL PG EL Y 196 [.pointer none,yl n0] m n) m n (.bool true):=by refine gC e196 rfl rfl ?_;simp only[Jd];simp(disch:=omega)only[W_,eu,to,IS,lh]
  obtain⟨r,hp⟩:=hp;rw[hp];refine⟨rfl,IN _,λ_ _=>rfl,λj _=>Nat.zero_mod _,?_⟩;simpa[Tr.list]using hL
 |nd l x r ihl ihr=>intro v m n n0 L h hn hL hl;obtain⟨b,lv,rv,rfl,hb,hm,h1,h2⟩:=h;simp only[ndC]at hm;simp only[Tr.cnt]at hl;have cl:=l.pp;refine Rt.mono (jO (R:=λv m' n' w=>v=.bool true/\n<=n'/\(∀b,b<n0->m' b=m b)/\(∀j,j<=n0->SL w (bit j)=0)/\WL m' n0 n' (L++(Tr.nd l x r).list)) e196 rfl hn λQ hQ=>?_) λ_ _ _ _ h=>h.2;simp only[Jd];have o1:=h1.one;have o2:=h2.one;simp(disch:=omega)only[W_,eu,to,IS,mm,hm,o1,o2];refine fI (ihl lv m n n0 L h1 hn hL (by omega)) λv1 M1 n1 r1 w1 ⟨hv1,k1,f1,g1,W1⟩=>?_;subst hv1;have hm1:=(f1 b hb).trans hm;simp(disch:=omega)only[W_,eu,to,IS,hm1,yl,oN,nj];obtain⟨sv,B1,S1⟩:=W1;refine fI (GJ x (by omega) B1 S1 (by rw[IT];omega)) λv2 M2 n2 r2 w2 ⟨z2,hv2,k2,f2,g2,sv2,B2,S2⟩=>?_;subst hv2;have hm2:=(f2 b hb).trans hm1;simp(disch:=omega)only[W_,eu,to,IS,hm2];refine fI (ihr rv M2 n2 n0 (L++l.list++[x]) (h2.frame (IN _) λk hk=>(f2 k hk).trans (f1 k hk)) (by omega) ⟨sv2,B2,S2⟩ (by simp only[IT,SA,List.length_nil];omega)) λv3 M3 n3 r3 w3 ⟨hv3,k3,f3,g3,W3⟩=>?_;subst hv3;simp(disch:=omega)only[W_,eu,to,IS];refine hQ _ _ _ _ _ (by simp only[gv,z2];simp) ⟨rfl,by omega,λk hk=>(f3 k hk).trans ((f2 k hk).trans (f1 k hk)),λj hj=>(by simp(disch:=omega)only[fB,eS,eR,and_self,g1,g2,g3]),?_⟩;simpa[Tr.list]using W3
theorem Kn{t:Tr}(h:TrR m n v t)(hl:t.cnt<=1000000):Kp (fL PG EL Y 252 [v] m n) m n λv m' n'=>Exs m' n' v t.list:=by refine gN (R:=λv m' n'=>Exs m' n' v t.list) e252 rfl (λ_ _ _ h1 h2=>h2.free h1) λQ hQ=>?_;have o:=h.one;have q:=h.gO;simp only[Qi];simp(disch:=omega)only[W_,eu,to,IS,o,q,yA];refine fI (Js t v _ (n+1) n [] (h.frame (IN _) λk hk=>gu) (by omega) ⟨_,eB _ _ _,.inl ⟨rfl,rfl,rfl⟩⟩ (by simpa using hl)) λv1 M1 n1 r1 w1 ⟨hv1,k1,f1,g1,sv,B1,S1⟩=>?_;simp(disch:=omega)only[W_,eu,to,IS,B1];refine hQ _ _ _ _ _ (by omega) (λk hk=>(f1 k hk).trans (en _ _ _ _ (by omega))) (by simp(disch:=omega)only[fB,eS,eR,and_self,g1]) (SlZ.exs (L:=t.list) S1)
def Ex.small(x:Ex):Prop:=x.a<=1000000000/\x.n<=1000000000/\x.s<=1000000000
theorem vY(a k s:Nat)(h:a<=1000000000/\k<=1000000000/\s<=1000000000):Pure (fL PG EL Y 377 [.int .i64 (a:Int),.int .i64 (k:Int),.int .i64 (s:Int)] m n) m n (.bool (decide (a<=s/\k<=s-a))):=by
 refine gC e377 rfl rfl ?_;simp only[Pn];by_cases h1:a<=s
 ·by_cases h2:k<=s-a
  ·rw[decide_eq_true ⟨h1,h2⟩];simp(disch:=omega)only[W_,eu,to]
  ·rw[decide_eq_false (by omega)];simp(disch:=omega)only[W_,eu,to]
 ·rw[decide_eq_false (by omega)];simp(disch:=omega)only[W_,eu,to]
theorem Bl{m:FM}{n:Nat}(x:Ex)(h:x.small):Pure (fL PG EL Y 325 [.agg x.cs.toArray] m n) m n (.int .i64 ((x.a+x.n:Nat):Int)):=by refine gC e325 rfl rfl ?_;unfold Ex.small at h;simp only[PI,Ex.cs];simp(disch:=omega)only[W_,eu,to]
theorem uo(x:Ex)(h:x.ok):Pure (fL PG EL Y 324 [.agg x.cs.toArray] m n) m n (.bool true):=by refine gC e324 rfl rfl ?_;unfold Ex.ok at h;simp only[PJ,Ex.cs];simp(disch:=omega)only[W_,eu,to];refine fF (vY x.a x.n 65536 (by omega)) λr1=>?_;rw[decide_eq_true (by omega)];simp(disch:=omega)only[W_,eu,to];refine fF (vY x.s x.n 65536 (by omega)) λr1=>?_;rw[decide_eq_true (by omega)];simp(disch:=omega)only[W_,eu,to]
theorem B8(a k:Nat)(h:a+k<=65536):Pure (fL PG EL Y 256 [.int .i64 (a:Int),.int .i64 (k:Int)] m n) m n (.bool true):=by refine gC e256 rfl rfl ?_;simp only[Qe];simp(disch:=omega)only[W_,eu,to]
def flw(x y:Ex):Bool:=decide (x.a+x.n=y.a/\x.s+x.n=y.s)
theorem uD(x y:Ex)(hx:x.small)(hy:y.small):Pure (fL PG EL Y 249 [.agg x.cs.toArray,.agg y.cs.toArray] m n) m n (.bool (flw x y)):=by
 refine gC e249 rfl rfl ?_;unfold Ex.small at hx hy;unfold flw;simp only[Qk,Ex.cs];by_cases h1:x.a+x.n=y.a
 ·by_cases h2:x.s+x.n=y.s
  ·rw[decide_eq_true ⟨h1,h2⟩];simp(disch:=omega)only[W_,eu,to]
  ·rw[decide_eq_false (by omega)];simp(disch:=omega)only[W_,eu,to]
 ·rw[decide_eq_false (by omega)];simp(disch:=omega)only[W_,eu,to]
theorem VL.small{L:List Ex}(h:VL L){x:Ex}(hx:x∈L):x.small:=by have:=h.1 x hx;unfold Ex.ok at this;unfold Ex.small;omega
theorem LS{L:List Ex}(h:Exs m n v L)(hv:VL L)(x4:AT):
  ∀(d j:Nat),j+d=L.length->∀(x0 x2:AT) (M:FM) (N:Nat),n<=N->(∀b,b<n->M b=m b)->
  Gv (gD PG EL Y xK [x0,.int .i64 (j:Int),x2,.int .i64 (L.length:Int),x4,v] M N) λX e _ _ w=>(∃x0 x1 x2,X=.exit 0/\e=[x0,x1,x2,x4,v])/\SL w (bit n)=0:=by
 have q:=h.gO;have o:=h.one;have hB:=hv.bd.1;intro d
 induction d with
 |zero=>intro j hj x0 x2 M N hN hf;refine gA (L:=xK) (b:=se) rfl ?_;simp only[se];simp(disch:=omega)only[W_,eu,to];exact⟨_,_,_,rfl⟩
 |succ d ih=>
  intro j hj x0 x2 M N hN hf;obtain⟨b,rest,opn,wr,hi,hb,hm⟩:=h.at (by omega);have hmM:=(hf b hb).trans hm;obtain⟨c1,c2,c3,c4⟩:=jF (l:=L) (j:=j) rest (by omega);have hx:=hv.1 L[j] (Tb _);refine gA (L:=xK) (b:=se) rfl ?_;simp only[se];simp(disch:=omega)only[W_,eu,to,hi j (by omega),hmM,c1,o,q];refine gS (uo L[j] hx) λr1=>?_;unfold Ex.ok at hx;by_cases hj0:j=0
  ·subst hj0;simp(disch:=omega)only[W_,eu,to];exact gR (ih 1 (by omega) _ _ _ _ (by omega) λk hk=>gJ (by omega) (hf k hk)) λX e m n w hq=>⟨hq.1,(by simp(disch:=omega)only[fB,eS,eR,and_self,hq.2])⟩
  ·obtain⟨e1,e2,e3,e4⟩:=jF (l:=L) (j:=j-1) rest (by omega);have hc:=List.pairwise_iff_getElem.1 hv.2 (j-1) j (by omega) (by omega) (by omega);have hs:=hv.small (Tb (l:=L) (n:=j-1) (by omega));have hs2:=hs;unfold Ex.small at hs2;simp(disch:=omega)only[W_,eu,to,hi (j-1) (by omega),hmM,e1,o,q];refine gS (Bl L[j-1] hs) λr2=>?_;simp(disch:=omega)only[W_,eu,to];exact gR (ih (j+1) (by omega) _ _ _ _ (by omega) λk hk=>gJ (by omega) (hf k hk)) λX e m n w hq=>⟨hq.1,(by simp(disch:=omega)only[fB,eS,eR,and_self,hq.2])⟩
theorem yf{L:List Ex}(h:Exs m n v L)(hv:VL L):Pure (fL PG EL Y 246 [v] m n) m n (.bool true):=by refine gC e246 rfl rfl ?_;simp only[Ql];have l:=h.len;simp(disch:=omega)only[W_,eu,to,l];refine ic (LS h hv _ L.length 0 (by omega) _ _ m n (IN _) λ_ _=>rfl) λX e M N r w ⟨⟨x0,x1,x2,hX,he⟩,hw⟩=>?_;subst hX he;simp(disch:=omega)only[W_,eu,to,hw]
theorem HZ{P:SZ}{E:Nat->Option AFn}{f:Frm}{K:List Frm}{w0:Nat}{x:CR FM}{Q Q1:AX->List AT->FM->Nat->Nat->Prop}(h:Wr P E Y [f] w0 x Q1)(hk:∀X e m n r w,Q1 X e m n w->Wr P E Y K w (.ok X e m n r 0) Q):Wr P E Y (f::K) w0 x Q:=by
 have h:Gv (kq x (uM P E Y f)) λX e m n w=>Q1 X e m n (OF w0 w):=h;show Gv (uL P E Y K (kq x (uM P E Y f))) _;obtain⟨X,e,m,n,r,w,hx,hq⟩:=kF h;rw[hx];have hk:=hk X e m n 0 _ hq;have h2:CR.ok X e m n r w=lH r w (CR.ok X e m n 0 0):=by show _=CR.ok X e m n (OF r 0) (OF w 0);rw[ju,ju]
 rw[h2,vO,Rc];refine Gv.mono hk λX e m n w' hq=>?_
 rwa [<-jZ]
theorem TP.other{M':FM}{k:Nat}(h:TP M N v P)(hk:M k=some (.cells c s o w))(hc:c.length≠8)(hM:∀b,b≠k->M' b=M b):TP M' N v P:=let⟨t,h1,h2⟩:=h;⟨t,h1.other hk hc hM,h2⟩
def ExP(M:FM)(N:Nat)(v:AT)(P:List Pr):Prop:=∃L,Exs M N v L/\VL L/\prs L=P
theorem ExP.frame{M':FM}{N N':Nat}(h:ExP M N v P)(hN:N<=N')(hf:∀b,b<N->M' b=M b):ExP M' N' v P:=let⟨L,h1,h2⟩:=h;⟨L,h1.frame hN hf,h2⟩
theorem ExP.other{M':FM}{k:Nat}(h:ExP M N v P)(hk:M k=some (.cells c s o w))(hs:s≠3)(hM:∀b,b≠k->M' b=M b):ExP M' N v P:=by
 obtain⟨L,h,h2⟩:=h;refine⟨L,h.imp id λ⟨b,j,rest,opn,wr,h1,h3,h4⟩=>⟨b,j,rest,opn,wr,h1,h3,(hM b ?_).trans h4⟩,h2⟩;rintro rfl;rw[hk]at h4;injection h4 with h4
 injection h4 with _ h4
 exact hs h4
theorem ExP.one(h:ExP M N v P):Am.one v=true:=let⟨_,h,_⟩:=h;h.one
theorem ExP.free(h:ExP M N v P)(hv:gy v=true):ExP M' N' v P:=let⟨L,h1,h2⟩:=h;⟨L,h1.free hv,h2⟩
theorem zm(h:TP m n v P):Kp (fL PG EL Y 252 [v] m n) m n λv m' n'=>ExP m' n' v P:=by obtain⟨L,⟨t,ht,rfl⟩,hv,rfl⟩:=h;have:=hv.bd.1;exact(Kn ht (by rw[t.pp];omega)).mono λv m' n' h=>⟨_,h,hv,rfl⟩
theorem adZ(h:TP m n v P)(hv:v≠.pointer none):Kp (fL PG EL Y 248 [v] m n) m n λv m' n'=>∃(y:Ex) (tv:AT) (R:List Pr),v=.tuple #[.agg y.cs.toArray,tv]/\TP m' n' tv R/\y.ok/\R++y.pr=P/\∀p∈R,p.1<y.a:=by
 obtain⟨L,⟨t,ht,rfl⟩,hV,rfl⟩:=h
 cases t with
 |nil=>exact absurd ht hv
 |nd l x r=>obtain⟨R,z,hz⟩:∃R z,(Tr.nd l x r).list=R++[z]:=⟨_,_,(List.dropLast_concat_getLast (by simp[Tr.list])).symm⟩;rw[hz]at hV ⊢;refine(aaH r x l z R m n v ht hz hV.bd).mono λv m' n' ⟨tv,h1,h2⟩=>⟨z,tv,prs R,h1,⟨R,h2,hV.left,rfl⟩,hV.1 z (by simp),by rw[iZ];simp[prs],λp hp=>?_⟩;have hz:=hV.1 z (by simp);unfold Ex.ok at hz;exact hV.before p hp (z.a,z.s) (by simp only[prs,TO,We,SN];exact Ex.iH.2 ⟨IN _,by dsimp only;omega,rfl⟩)
theorem aaX(h:TP m n v P)(hv:v≠.pointer none):Kp (fL PG EL Y 250 [v] m n) m n λv m' n'=>∃(y:Ex) (tv:AT) (R:List Pr),v=.tuple #[.agg y.cs.toArray,tv]/\TP m' n' tv R/\y.ok/\y.pr++R=P/\∀p∈R,y.a+y.n<=p.1:=by
 obtain⟨L,⟨t,ht,rfl⟩,hV,rfl⟩:=h
 cases t with
 |nil=>exact absurd ht hv
 |nd l x r=>obtain⟨z,R,hz⟩:∃z R,(Tr.nd l x r).list=z::R:=List.exists_cons_of_ne_nil (by simp[Tr.list]);rw[hz]at hV ⊢;have hz1:=hV.1 z (by simp);refine(Em l x r z R m n v ht hz hV.bd).mono λv m' n' ⟨tv,h1,h2⟩=>⟨z,tv,prs R,h1,⟨R,h2,hV.tail,rfl⟩,hz1,by rw[jq],λp hp=>?_⟩;unfold Ex.ok at hz1;have:=VL.before (A:=[z]) hV (z.a+(z.n-1),z.s+(z.n-1)) (by simp only[prs,TO,We,SN];exact Ex.iH.2 ⟨by dsimp only;omega,by dsimp only;omega,by dsimp only;omega⟩) p hp;dsimp only at this;omega
theorem MO{x:Ex}(h:TP m n tv P)(hx:x.ok):Kp (fL PG EL Y 168 [.agg #[tv],.agg x.cs.toArray] m n) m n λv m' n'=>∃tv' lv,v=.tuple #[.agg #[tv'],lv,.int .i64 0]/\TP m' n' tv' (asg x P)/\ExP m' n' lv (kY x.a (x.a+x.n) P):=by
 refine gG (R:=λv m' n'=>∃tv' lv,v=.tuple #[.agg #[tv'],lv,.int .i64 0]/\TP m' n' tv' (asg x P)/\ExP m' n' lv (kY x.a (x.a+x.n) P)) e168 rfl λQ hQ=>?_;have hx2:=hx;unfold Ex.ok at hx2;have o:=h.one;have q:=h.gO;simp only[QJ,Ex.cs];simp(disch:=omega)only[W_,eu,to,IS,o,q];refine fF (yf (L:=[x]) (.inr ⟨n+3,1,[],false,true,rfl,by omega,eB _ _ _⟩) (VL.one hx)) λr1=>?_;simp(disch:=omega)only[W_,eu,to,IS,o,q];have l1:∀k,k<n->(If (If (If (If m n (some (.cells [tv] 0 false true))) (n+1) (some (.cells [.int .i64 (x.a:Int),.int .i64 (x.n:Int),.int .i64 (x.s:Int)] 0 false true))) (n+2) (some (.cells [.pointer none] 0 false true))) (n+3) (some (.cells [.int .i64 (x.a:Int),.int .i64 (x.n:Int),.int .i64 (x.s:Int)] 3 false true)):FM) k=m k:=λk hk=>by rw[en _ _ _ _ (by omega),en _ _ _ _ (by omega),en _ _ _ _ (by omega),en _ _ _ _ (by omega)]
 have t1:(If (If (If (If m n (some (.cells [tv] 0 false true))) (n+1) (some (.cells [.int .i64 (x.a:Int),.int .i64 (x.n:Int),.int .i64 (x.s:Int)] 0 false true))) (n+2) (some (.cells [.pointer none] 0 false true))) (n+3) (some (.cells [.int .i64 (x.a:Int),.int .i64 (x.n:Int),.int .i64 (x.s:Int)] 3 false true)):FM) (n+1)=some (.cells [.int .i64 (x.a:Int),.int .i64 (x.n:Int),.int .i64 (x.s:Int)] 0 false true):=by rw[en _ _ _ _ (by omega),en _ _ _ _ (by omega),eB]
 have t2:(If (If (If (If m n (some (.cells [tv] 0 false true))) (n+1) (some (.cells [.int .i64 (x.a:Int),.int .i64 (x.n:Int),.int .i64 (x.s:Int)] 0 false true))) (n+2) (some (.cells [.pointer none] 0 false true))) (n+3) (some (.cells [.int .i64 (x.a:Int),.int .i64 (x.n:Int),.int .i64 (x.s:Int)] 3 false true)):FM) (n+2)=some (.cells [.pointer none] 0 false true):=by rw[en _ _ _ _ (by omega),eB]
 revert l1 t1 t2;generalize (If (If (If (If m n (some (.cells [tv] 0 false true))) (n+1) (some (.cells [.int .i64 (x.a:Int),.int .i64 (x.n:Int),.int .i64 (x.s:Int)] 0 false true))) (n+2) (some (.cells [.pointer none] 0 false true))) (n+3) (some (.cells [.int .i64 (x.a:Int),.int .i64 (x.n:Int),.int .i64 (x.s:Int)] 3 false true)):FM)=M;intro l1 t1 t2;refine fI (xg (a:=x.a) (h.frame (N':=n+4) (by omega) l1) (by omega)) λv1 M1 n1 r1 w1 ⟨k1,f1,g1,av,rv,hv1,A1,R1⟩=>?_;subst hv1;have s1:=(f1 (n+1) (by omega)).trans t1;simp(disch:=omega)only[W_,eu,to,IS,s1];refine fI (xg (a:=x.a+x.n) R1 (by omega)) λv2 M2 n2 r2 w2 ⟨k2,f2,g2,mv,bv,hv2,A2,R2⟩=>?_;subst hv2;have s2:=(f2 (n+1) (by omega)).trans s1;have u2:=(f2 (n+2) (by omega)).trans ((f1 (n+2) (by omega)).trans t2);have oa:=A1.one;have qa:=A1.gO;have ob:=R2.one;have qb:=R2.gO;have hA2:=A1.frame k2 f2;simp(disch:=omega)only[W_,eu,to,IS];refine HZ (Q1:=λX e M' N' w=>X=.norm/\∃(x1:Ex) (a1 c1 a0:AT) (A:List Pr),e=[a1,c1,bv,mv,rv,a0,.bool false,.int .i64 0,.slice none 0 0,.pointer (some ⟨n+2,0,none⟩),.pointer (some ⟨n+1,0,none⟩),.pointer (some ⟨n,0,none⟩),.agg #[tv],.agg #[.int .i64 (x.a:Int),.int .i64 (x.n:Int),.int .i64 (x.s:Int)]]/\n2<=N'/\(∀b,b<n2->b≠n+1->M' b=M2 b)/\SL w (bit n)=0/\M' (n+1)=some (.cells [.int .i64 (x1.a:Int),.int .i64 (x1.n:Int),.int .i64 (x1.s:Int)] 0 false true)/\TP M' N' a1 A/\TP M' N' mv (jK (x.a+x.n) (iC x.a P))/\TP M' N' bv (iC (x.a+x.n) (iC x.a P))/\x1.ok/\A++x1.pr=jK x.a P++x.pr/\x1.a+x1.n=x.a+x.n/\∀p∈A,p.1<x1.a) ?_ ?_
 ·by_cases ha:av=.pointer none
  ·subst ha;simp(disch:=omega)only[W_,eu,to,IS,tL];exact⟨x,_,_,_,_,rfl,IN _,λ_ _ _=>trivial,⟨g1 n (by omega),g2 n (by omega)⟩,s2,hA2,A2,R2,hx,rfl,rfl,λp hp=>(nc.1 hp).2⟩
  ·obtain⟨ab,rfl⟩:∃ab,av=.pointer (some ab):=by
    obtain⟨L,⟨t,ht,_⟩,_⟩:=A1
    cases t with
    |nil=>exact absurd ht ha
    |nd l x r=>obtain⟨b,_,_,rfl,_⟩:=ht;exact⟨_,rfl⟩
   simp(disch:=omega)only[W_,eu,to,IS,pF];refine fI (adZ hA2 ha) λv4 M4 n4 r4 w4 ⟨k4,f4,g4,y,ev,R,hv4,E4,hy,e1,e2⟩=>?_;subst hv4;have hy2:=hy;unfold Ex.ok at hy2;have s4:=(f4 (n+1) (by omega)).trans s2;have oe:=E4.one;have qe:=E4.gO
   have hyx:y.a+y.n<=x.a:=by
    have hp:(y.a+(y.n-1),y.s+(y.n-1))∈jK x.a P:=by rw[<-e1];exact List.mem_append_right _ (Ex.iH.2 ⟨by dsimp only;omega,by dsimp only;omega,by dsimp only;omega⟩)
    have:=(nc.1 hp).2;dsimp only at this;omega
   simp(disch:=omega)only[W_,eu,to,IS,Ex.cs,s4,oe,qe,oa];refine fF (uD y x (by unfold Ex.small;omega) (by unfold Ex.small;omega)) λr5=>?_;have l5:∀k,k<n4->(If M4 n4 (some (.cells [.int .i64 (y.a:Int),.int .i64 (y.n:Int),.int .i64 (y.s:Int)] 0 false true)):FM) k=M4 k:=λk hk=>gu;have t5:=eB M4 n4 (some (.cells [.int .i64 (y.a:Int),.int .i64 (y.n:Int),.int .i64 (y.s:Int)] 0 false true));revert l5 t5;generalize (If M4 n4 (some (.cells [.int .i64 (y.a:Int),.int .i64 (y.n:Int),.int .i64 (y.s:Int)] 0 false true)):FM)=M5;intro l5 t5;have s5:=(l5 (n+1) (by omega)).trans s4;have f5:∀k,k<n2->M5 k=M2 k:=λk hk=>(l5 k (by omega)).trans (f4 k hk);have E5:=E4.frame (N':=n4+1) (by omega) l5;have mid5:=A2.frame (N':=n4+1) (by omega) f5;have B5:=R2.frame (N':=n4+1) (by omega) f5;have A5:=hA2.frame (N':=n4+1) (by omega) f5;have gs:SL w1 (bit n)=0/\SL w2 (bit n)=0/\SL w4 (bit n)=0:=⟨g1 n (by omega),g2 n (by omega),g4 n (by omega)⟩;cases hf:flw y x
   ·simp(disch:=omega)only[W_,eu,to,IS,gs.1,gs.2.1,gs.2.2];exact⟨x,_,_,_,_,rfl,by omega,λb hb _=>f5 b hb,s5,A5,mid5,B5,hx,rfl,rfl,λp hp=>(nc.1 hp).2⟩
   ·unfold flw at hf;rw[decide_eq_true_eq]at hf;simp(disch:=omega)only[W_,eu,to,IS,t5,s5,gs.1,gs.2.1,gs.2.2];exact⟨⟨y.a,y.n+x.n,y.s⟩,_,_,_,_,rfl,by omega,λb hb hne=>(en _ _ _ _ hne).trans (f5 b hb),rfl,E5.other s5 (by simp) λb hb=>en _ _ _ _ hb,mid5.other s5 (by simp) λb hb=>en _ _ _ _ hb,B5.other s5 (by simp) λb hb=>en _ _ _ _ hb,by unfold Ex.ok;dsimp only;omega,by rw[<-e1,Ex.Gh hf.1 hf.2,S6],by dsimp only;omega,e2⟩
 ·rintro X e M3 n3 r3 w3 ⟨rfl,x1,a1,c1,a0,A,rfl,k3,f3,g3,z3,A3,mid3,B3,hx1,e1,e2,e3⟩;have u3:=(f3 (n+2) (by omega) (by omega)).trans u2;have oa:=A3.one;have qa:=A3.gO;have ob:=B3.one;have qb:=B3.gO;have hx12:=hx1;unfold Ex.ok at hx12;simp(disch:=omega)only[W_,eu,to,IS];refine HZ (Q1:=λX e M' N' w=>X=.norm/\∃(x2:Ex) (b1 c2:AT) (B:List Pr),e=[b1,c2,a1,c1,bv,mv,rv,a0,.bool false,.int .i64 0,.slice none 0 0,.pointer (some ⟨n+2,0,none⟩),.pointer (some ⟨n+1,0,none⟩),.pointer (some ⟨n,0,none⟩),.agg #[tv],.agg #[.int .i64 (x.a:Int),.int .i64 (x.n:Int),.int .i64 (x.s:Int)]]/\n3<=N'/\(∀b,b<n3->b≠n+1->M' b=M3 b)/\SL w (bit n)=0/\M' (n+1)=some (.cells [.int .i64 (x2.a:Int),.int .i64 (x2.n:Int),.int .i64 (x2.s:Int)] 0 false true)/\TP M' N' a1 A/\TP M' N' b1 B/\TP M' N' mv (jK (x.a+x.n) (iC x.a P))/\x2.ok/\x2.a=x1.a/\x2.pr++B=x1.pr++iC (x.a+x.n) (iC x.a P)/\∀p∈B,x2.a+x2.n<=p.1) ?_ ?_
  ·by_cases hb:bv=.pointer none
   ·subst hb;simp(disch:=omega)only[W_,eu,to,IS,tL,g3];exact⟨x1,_,_,_,rfl,IN _,λ_ _ _=>trivial,z3,A3,B3,mid3,hx1,rfl,rfl,λp hp=>by have:=(kK.1 hp).2;omega⟩
   ·obtain⟨ab,rfl⟩:∃ab,bv=.pointer (some ab):=by
     obtain⟨L,⟨t,ht,_⟩,_⟩:=B3
     cases t with
     |nil=>exact absurd ht hb
     |nd l x r=>obtain⟨b,_,_,rfl,_⟩:=ht;exact⟨_,rfl⟩
    simp(disch:=omega)only[W_,eu,to,IS,pF];refine fI (aaX B3 hb) λv4 M4 n4 r4 w4 ⟨k4,f4,g4,y,ev,R,hv4,E4,hy,q1,q2⟩=>?_;subst hv4;have hy2:=hy;unfold Ex.ok at hy2;have s4:=(f4 (n+1) (by omega)).trans z3;have oe:=E4.one;have qe:=E4.gO;simp(disch:=omega)only[W_,eu,to,IS,Ex.cs,s4,oe,qe];refine fF (uD x1 y (by unfold Ex.small;omega) (by unfold Ex.small;omega)) λr5=>?_;have l5:∀k,k<n4->(If M4 n4 (some (.cells [.int .i64 (y.a:Int),.int .i64 (y.n:Int),.int .i64 (y.s:Int)] 0 false true)):FM) k=M4 k:=λk hk=>gu;have t5:=eB M4 n4 (some (.cells [.int .i64 (y.a:Int),.int .i64 (y.n:Int),.int .i64 (y.s:Int)] 0 false true));revert l5 t5;generalize (If M4 n4 (some (.cells [.int .i64 (y.a:Int),.int .i64 (y.n:Int),.int .i64 (y.s:Int)] 0 false true)):FM)=M5;intro l5 t5;have s5:=(l5 (n+1) (by omega)).trans s4;have f5:∀k,k<n3->M5 k=M3 k:=λk hk=>(l5 k (by omega)).trans (f4 k hk);have E5:=E4.frame (N':=n4+1) (by omega) l5;have mid5:=mid3.frame (N':=n4+1) (by omega) f5;have B5:=B3.frame (N':=n4+1) (by omega) f5;have A5:=A3.frame (N':=n4+1) (by omega) f5;have gs:SL w4 (bit n)=0:=g4 n (by omega);cases hf:flw x1 y
    ·simp(disch:=omega)only[W_,eu,to,IS,gs,g3];exact⟨x1,_,_,_,rfl,by omega,λb hb _=>f5 b hb,s5,A5,B5,mid5,hx1,rfl,rfl,λp hp=>by have:=(kK.1 hp).2;omega⟩
    ·unfold flw at hf;rw[decide_eq_true_eq]at hf;simp(disch:=omega)only[W_,eu,to,IS,t5,s5,gs,g3];exact⟨⟨x1.a,x1.n+y.n,x1.s⟩,_,_,_,rfl,by omega,λb hb hne=>(en _ _ _ _ hne).trans (f5 b hb),rfl,A5.other s5 (by simp) λb hb=>en _ _ _ _ hb,E5.other s5 (by simp) λb hb=>en _ _ _ _ hb,mid5.other s5 (by simp) λb hb=>en _ _ _ _ hb,by unfold Ex.ok;dsimp only;omega,rfl,by rw[<-q1,Ex.Gh hf.1 hf.2,S6],λp hp=>by have:=q2 p hp;dsimp only;omega⟩
  ·rintro X e M6 n6 r6 w6 ⟨rfl,x2,b1,c2,B,rfl,k6,f6,g6,z6,A6,B6,mid6,hx2,e4,e5,e6⟩;have u6:=(f6 (n+2) (by omega) (by omega)).trans u3;have ob1:=B6.one;have qb1:=B6.gO;simp(disch:=omega)only[W_,eu,to,IS,z6];refine fI (zo (x:=x2) A6 B6 hx2 (by rw[e4];exact e3) e6) λv7 M7 n7 r7 w7 ⟨k7,f7,g7,T7,_⟩=>?_;have o7:=T7.one;have u7:=(f7 (n+2) (by omega)).trans u6;simp(disch:=omega)only[W_,eu,to,IS,o7,dW o7];refine fI (zm (mid6.frame k7 f7)) λv8 M8 n8 r8 w8 ⟨k8,f8,g8,L8⟩=>?_;have u8:=(f8 (n+2) (by omega)).trans u7;simp(disch:=omega)only[W_,eu,to,IS,o7,u8,dW o7];refine hQ _ _ _ _ _ (by omega) (λk hk=>by rw[en _ _ _ _ (by omega),f8 k (by omega),f7 k (by omega),f6 k (by omega) (by omega),f3 k (by omega) (by omega),f2 k (by omega),f1 k (by omega),l1 k hk]) (by simp(disch:=omega)only[fB,eS,eR,and_self,g6,g7,g8]) rfl ⟨v7,v8,rfl,?_,?_⟩
   ·have:=(T7.frame k8 f8).other u8 (by simp) λb (hb:b≠n+2)=>en M8 (n+2) b (some (.cells [v7] 0 false true)) hb;rw[e5,<-S6,e1,S6,rH (by omega)]at this;exact this
   ·exact L8.other u8 (by simp) λb hb=>en _ _ _ _ hb
theorem Oo(hl:TP m n lv A)(hr:TP m n rv B)(h:∀p∈A,∀q∈B,p.1<q.1):Kp (fL PG EL Y 257 [lv,rv] m n) m n λv m' n'=>TP m' n' v (A++B):=by obtain⟨L,hl,vl,rfl⟩:=hl;obtain⟨R,hr,vr,rfl⟩:=hr;have hv:=vl.append vr h;exact Rt.mono (EP hl hr hv.bd) λv m' n' w ⟨h1,h2,h3,h4⟩=>⟨h1,h2,h3,_,h4,hv,iZ ..⟩
theorem EE{a k:Nat}(h:TP m n tv P)(hx:a+k<=65536):Kp (fL PG EL Y 170 [.agg #[tv],.int .i64 (a:Int),.int .i64 (k:Int)] m n) m n λv m' n'=>∃tv' lv,v=.tuple #[.agg #[tv'],lv,.int .i64 0]/\TP m' n' tv' (jK a P++iC (a+k) P)/\ExP m' n' lv (kY a (a+k) P):=by
 refine gG (R:=λv m' n'=>∃tv' lv,v=.tuple #[.agg #[tv'],lv,.int .i64 0]/\TP m' n' tv' (jK a P++iC (a+k) P)/\ExP m' n' lv (kY a (a+k) P)) e170 rfl λQ hQ=>?_;have o:=h.one;have q:=h.gO;simp only[QH];simp(disch:=omega)only[W_,eu,to,o,q];refine fF (B8 a k hx) λr1=>?_;have l1:∀b,b<n->(If (If m n (some (.cells [tv] 0 false true))) (n+1) (some (.cells [.pointer none] 0 false true)):FM) b=m b:=λb hb=>(en _ _ _ _ (by omega)).trans (en _ _ _ _ (by omega));have t0:(If (If m n (some (.cells [tv] 0 false true))) (n+1) (some (.cells [.pointer none] 0 false true)):FM) n=some (.cells [tv] 0 false true):=(en _ _ _ _ (by omega)).trans (eB _ _ _);have t1:=eB (If m n (some (.cells [tv] 0 false true))) (n+1) (some (.cells [.pointer none] 0 false true));revert l1 t0 t1;generalize (If (If m n (some (.cells [tv] 0 false true))) (n+1) (some (.cells [.pointer none] 0 false true)):FM)=M;intro l1 t0 t1;have T:=h.frame (N':=n+2) (by omega) l1;by_cases hk:k=0
 ·subst hk;simp(disch:=omega)only[W_,eu,to,t0,t1,o,dW o];refine hQ _ _ _ _ _ (by omega) (λb hb=>gJ (by omega) (l1 b hb)) (by simp(disch:=omega)only[fB,eS,eR,and_self]) rfl ⟨tv,_,rfl,?_,?_⟩
  ·show TP _ _ _ (jK a P++iC a P);rw[<-h.BL.cut a];exact T.other t1 (by simp) λb hb=>en _ _ _ _ hb
  ·refine⟨[],Exs.nil _ _,.nil,?_⟩
   symm
   refine List.filter_eq_nil_iff.2 λp hp=>?_;have:=(kK.1 hp).2;simp;omega
 ·simp(disch:=omega)only[W_,eu,to,t0,t1,o];refine fI (xg T (a:=a) (by omega)) λv1 M1 n1 r1 w1 ⟨k1,f1,g1,av,rv,hv1,A1,R1⟩=>?_;subst hv1;simp(disch:=omega)only[W_,eu,to];refine fI (xg R1 (a:=a+k) (by omega)) λv2 M2 n2 r2 w2 ⟨k2,f2,g2,mv,bv,hv2,A2,R2⟩=>?_;subst hv2;simp(disch:=omega)only[W_,eu,to]
  refine fI (Oo (A1.frame k2 f2) R2 λp hp q hq=>by
   have:=(nc.1 hp).2;have:=(kK.1 (kK.1 hq).1).2
   omega) λv3 M3 n3 r3 w3 ⟨k3,f3,g3,T3⟩=>?_
  have o3:=T3.one;simp(disch:=omega)only[W_,eu,to,o3,dW o3];refine fI (zm (A2.frame k3 f3)) λv8 M8 n8 r8 w8 ⟨k8,f8,g8,L8⟩=>?_;have u8:=(f8 (n+1) (by omega)).trans ((f3 (n+1) (by omega)).trans ((f2 (n+1) (by omega)).trans ((f1 (n+1) (by omega)).trans t1)));simp(disch:=omega)only[W_,eu,to,o3,u8,dW o3];refine hQ _ _ _ _ _ (by omega) (λb hb=>by rw[en _ _ _ _ (by omega),f8 b (by omega),f3 b (by omega),f2 b (by omega),f1 b (by omega),l1 b hb]) (by simp(disch:=omega)only[fB,eS,eR,and_self,g1,g2,g3,g8]) rfl ⟨v3,v8,rfl,?_,?_⟩
  ·have:=(T3.frame k8 f8).other u8 (by simp) λb (hb:b≠n+1)=>en M8 (n+1) b (some (.cells [v3] 0 false true)) hb
   rwa [rH (by omega)]at this
  ·exact L8.other u8 (by simp) λb hb=>en _ _ _ _ hb
theorem yO{a k:Nat}(h:TP m n tv P)(hx:a+k<=65536):Kp (fL PG EL Y 117 [.agg #[tv],.int .i64 (a:Int),.int .i64 (k:Int)] m n) m n λv m' n'=>ExP m' n' v (kY a (a+k) P):=by refine gN (R:=λv m' n'=>ExP m' n' v (kY a (a+k) P)) e117 rfl (λ_ _ _ h1 h2=>h2.free h1) λQ hQ=>?_;have o:=h.one;have q:=h.gO;simp only[QX];simp(disch:=omega)only[W_,eu,to,o,q,dW o];refine fI (EE (h.frame (N':=n+1) (by omega) λb hb=>gu) hx) λv1 M1 n1 r1 w1 ⟨k1,f1,g1,tv',lv,hv1,T1,L1⟩=>?_;subst hv1;have o1:=T1.one;simp(disch:=omega)only[W_,eu,to,o1,dW o1,L1.one];refine hQ _ _ _ _ _ (by omega) (λb hb=>gJ (by omega) ((f1 b (by omega)).trans (en _ _ _ _ (by omega)))) (by simp(disch:=omega)only[fB,eS,eR,and_self,g1]) (L1.frame (by omega) λb hb=>gu)
theorem Ba(A B:List Pr)(b:Nat):lk (A++B) b=(lk A b).or (lk B b):=by unfold lk;rw[List.find?_append];cases A.find? λp=>p.1==b<;>simp
theorem lk_pr{x:Ex}(h:x.a<=b)(h2:b<x.a+x.n):lk x.pr b=some (x.s+(b-x.a)):=(oU x.sR).2 (Ex.iH.2 ⟨h,h2,by dsimp only;omega⟩)
def NY:Option Nat->AT
 |some s=>.tuple #[.int .i64 (s:Int),.bool true]
 |none=>.tuple #[.int .i64 0,.bool false]
theorem aaY(ha:a<=1000000):∀(t:Tr) (cv x0 x1 y3 y4 y5 y6 y7:AT) (N:Nat),TrR m n cv t->VL t.list->n<=N->
  Gv (gD PG EL Y xV [x0,x1,cv,y3,y4,y5,y6,y7,.int .i64 (a:Int)] m N) λX e _ _ w=>(match lk (prs t.list) a with
   |some s=>X=.ret (.tuple #[.int .i64 (s:Int),.bool true])
   |none=>X=.exit 0/\∃z0 z1,e=[z0,z1,y3,y4,y5,y6,y7,.int .i64 (a:Int)])/\w=0:=by
 intro t
 induction t with
 |nil=>intro cv x0 x1 y3 y4 y5 y6 y7 N h hV hN;have hv:cv=.pointer none:=h;subst hv;refine gA (L:=xV) (b:=sB) rfl ?_;simp only[sB];simp(disch:=omega)only[W_,eu,to,tL];exact⟨_,_,rfl⟩
 |nd l x r ihl ihr=>
  intro cv x0 x1 y3 y4 y5 y6 y7 N h hV hN;obtain⟨b,lv,rv,rfl,hb,hm,h1,h2⟩:=h;simp only[ndC]at hm;have hx:=hV.1 x (by simp[Tr.list]);unfold Ex.ok at hx;have hL:prs (Tr.nd l x r).list=prs l.list++(x.pr++prs r.list):=by show prs (l.list++x::r.list)=_;rw[iZ,jq]
  have hV2:VL (l.list++x::r.list):=hV;have xl:∀p∈prs l.list,p.1<x.a:=λp hp=>hV2.before p hp (x.a,x.s) (by rw[jq];exact Uf _ (Ex.iH.2 ⟨IN _,by dsimp only;omega,rfl⟩))
  have xr:∀p∈prs r.list,x.a+x.n<=p.1:=λp hp=>by
   have:=VL.before (A:=[x]) hV2.right (x.a+(x.n-1),x.s+(x.n-1)) (by
    simp only[prs,TO,We,SN]
    exact Ex.iH.2 ⟨by dsimp only;omega,by dsimp only;omega,by dsimp only;omega⟩) p hp
   dsimp only at this;omega
  rw[hL,Ba,Ba];refine gA (L:=xV) (b:=sB) rfl ?_;simp only[sB];have o1:=h1.one;have o2:=h2.one;by_cases c1:a<x.a
  ·rw[show lk x.pr a=none from sZ.2 λp hp=>by have:=Ex.iH.1 hp;omega,show lk (prs r.list) a=none from sZ.2 λp hp=>by have:=xr p hp;omega,Option.or_none,Option.or_none];simp(disch:=omega)only[W_,eu,to,pF,hm,o1,o2];exact gR (ihl lv _ _ _ _ _ _ _ N h1 hV2.left hN) λX e m n w hq=>⟨hq.1,by rw[hq.2];rfl⟩
  by_cases c2:x.a+x.n<=a
  ·rw[show lk x.pr a=none from sZ.2 λp hp=>by have:=Ex.iH.1 hp;omega,show lk (prs l.list) a=none from sZ.2 λp hp=>by have:=xl p hp;omega,Option.none_or,Option.none_or];simp(disch:=omega)only[W_,eu,to,pF,hm,o1,o2];exact gR (ihr rv _ _ _ _ _ _ _ N h2 hV2.right.tail hN) λX e m n w hq=>⟨hq.1,by rw[hq.2];rfl⟩
  ·rw[show lk (prs l.list) a=none from sZ.2 λp hp=>by have:=xl p hp;omega,lk_pr (by omega) (by omega),Option.none_or,Option.some_or];simp(disch:=omega)only[W_,eu,to,pF,hm,o1,o2];rw[show x.s+a-x.a=x.s+(a-x.a) by omega]
theorem find_spec(h:TP m n tv P)(ha:a<=1000000):Pure (fL PG EL Y 127 [.agg #[tv],.int .i64 (a:Int)] m n) m n (NY (lk P a)):=by
 refine gC e127 rfl (by cases lk P a<;>rfl) ?_;have o:=h.one;have q:=h.gO;simp only[QP];simp(disch:=omega)only[W_,eu,to,o,q];obtain⟨L,⟨t,ht,rfl⟩,hV,rfl⟩:=h;refine ic (aaY ha t tv _ _ _ _ _ _ _ (n+1) (ht.frame (N':=n+1) (by omega) λb hb=>gu) hV (IN _)) λX e M N r w ⟨hX,hw⟩=>?_;subst hw
 cases hk:lk (prs t.list) a with
 |some s=>rw[hk]at hX;obtain rfl:X=_:=hX;simp(disch:=omega)only[W_,eu,to,NY]
 |none=>rw[hk]at hX;obtain⟨rfl,z0,z1,rfl⟩:X=.exit 0/\_:=hX;simp(disch:=omega)only[W_,eu,to,NY]
def chg(by_:Int)(cs:List Int)(sl:List Nat):List Int:=cs.mapIdx λs c=>c+by_*(sl.count s:Int)
theorem jH(k:Int)(cs:List Int)(sl:List Nat):(chg k cs sl).length=cs.length:=List.length_mapIdx
theorem abw(k:Int)(cs:List Int):chg k cs []=cs:=by apply List.ext_getElem?;intro i;simp[chg]
theorem qC{k:Int}(h:s<cs.length):(chg k cs sl)[s]'(by rw[jH];exact h)=cs[s]+k*(sl.count s:Int):=by simp[chg]
theorem OO{k:Int}(h:s<cs.length):(chg k cs sl).set s ((chg k cs sl)[s]'(by rw[jH];exact h)+k)=chg k cs (sl++[s]):=by
 apply Wn
 ·simp[jH]
 ·intro i h1 h2;rw[List.getElem_set];by_cases hi:s=i
  ·subst hi;rw[if_pos rfl,qC h,qC h,TH];have:([s].count s:Nat)=1:=by simp
   rw[this]
   push_cast
   rw[Int.mul_add];omega
  ·rw[if_neg hi,qC (by simpa[jH]using h2),qC (by simpa[jH]using h2),TH];have:([s].count i:Nat)=0:=List.count_eq_zero.2 (by simpa using λh=>hi h.symm);rw[this,Ve]
def ma(l:List Int):List AT:=l.map (Value.int .i64)
theorem uA(l:List Int):(ma l).length=l.length:=SC ..
theorem oi{l:List Int}{j:Nat}(h:j<l.length):lC (ma l) j=some (.int .i64 l[j]):=by rw[kD];simp[ma,h]
theorem NO{l:List Int}{j:Nat}(z:Int)(h:j<l.length):setCells (ma l) j [.int .i64 z]=some (ma (l.set j z)):=by rw[xh (by rw[uA];exact h)];simp[ma,List.map_set]
def slX(x:Ex)(k:Nat):List Nat:=(List.range k).map λi=>x.s+i
theorem ui(x:Ex):slX x x.n=slo x.pr:=by simp[slX,slo,Ex.pr]
theorem q'(x:Ex)(k:Nat):slX x (k+1)=slX x k++[x.s+k]:=by simp[slX,List.range_succ]
def Cts(M:FM)(N:Nat)(v:AT)(cs:List Int):Prop:=∃b k opn wr,v=.slice (some ⟨b,0,none⟩) cs.length k/\b<N/\M b=some (.cells (ma cs) 1 opn wr)
theorem Cts.frame{M':FM}{N N':Nat}(h:Cts M N v cs)(hN:N<=N')(hf:∀b,b<N->M' b=M b):Cts M' N' v cs:=let⟨b,k,opn,wr,h1,h2,h3⟩:=h;⟨b,k,opn,wr,h1,by omega,(hf b h2).trans h3⟩
theorem Cts.len(h:Cts M N v cs):qR false v=some (.int .i64 (cs.length:Int)):=by obtain⟨b,k,opn,wr,rfl,_⟩:=h;rfl
theorem Cts.one(h:Cts M N v cs):Am.one v=true:=by obtain⟨b,k,opn,wr,rfl,_⟩:=h;rfl
theorem Cts.gO(h:Cts M N v cs):∀k,N<=k->iW k v=true:=λk hk=>by obtain⟨b,_,opn,wr,rfl,hb,_⟩:=h;exact gI (show b<k by omega)
theorem Cts.gU(h:Cts M N v cs):∀k,N<=k->jz k v=true:=λk hk=>by obtain⟨b,_,opn,wr,rfl,hb,_⟩:=h;exact gI (show b<k by omega)
theorem Cts.other{M':FM}{k:Nat}(h:Cts M N v cs)(hk:M k=some (.cells c s o w))(hs:s≠1)(hM:∀b,b≠k->M' b=M b):Cts M' N v cs:=by
 obtain⟨b,j,opn,wr,h1,h3,h4⟩:=h;refine⟨b,j,opn,wr,h1,h3,(hM b ?_).trans h4⟩;rintro rfl;rw[hk]at h4;injection h4 with h4
 injection h4 with _ h4
 exact hs h4
theorem NP(l:List Int):(ma l).all Am.one=true:=by simp[ma];intros;rfl
theorem abc{rec:Nat->List AT->FM->Nat->OR FM}{e:List AT}{b2 k2:Nat}{o2:Bool}{cs ds:List Int}(i j:Nat)(hi:iA e i=.slice (some ⟨b2,0,none⟩) ds.length k2)(hj:iA e j=.slice (some ⟨b,0,none⟩) cs.length k)(hb:b<N)(hb2:b2<N)(hm:M b=some (.cells (ma cs) 1 o w))(hm2:M b2=some (.cells (ma ds) 1 o2 true))(hl:cs.length=ds.length)(h0:0<cs.length):
  gV PG rec e M N (.mp (.cpy 1) [.v i,.v j])=.ok (.int .i64 (cs.length:Int)) (If M b2 (some (.cells (ma cs) 1 o2 true))) N (OF (bit b) (bit b2)) (bit b2):=by
 show lu PG (.cpy 1) (evs e [.v i,.v j]) M N=_;show EG 1 M N (shown M N 1 (iA e j)) (iA e i) (iA e j)=_;rw[hi,hj,jL h0,ig hb,hm,jr,UA,Nat.mul_one,ja,kT,lD (by rw[uA])];show cond (Tj cs.length ds.length&&Te 0 cs.length) (Oi M N b2 0 1 cs.length (ma cs,bit b) (jc M N b2)) .no=_;rw[iq (by omega),gI h0,ig hb2,hm2];show cond (SF 1 1&&(ma cs).all Am.one) (tJ M N b2 1 o2 _ _ (setCells (ma ds) 0 (ma cs))) .no=_;rw[UA,NP];have:setCells (ma ds) 0 (ma cs)=some (ma cs):=by rw[setCells_eq,if_pos (by simp[uA,hl])];simp[uA,<-hl]
 rw[this];rfl
theorem aeu{k:Int}(hk:k=1\/k=-1)(hcs:∀c∈cs,-100000000<=c/\c<=100000000)(hl:sl.length<=100000000)(h:s<cs.length):-200000000<=(chg k cs sl)[s]'(by rw[jH];exact h)/\(chg k cs sl)[s]'(by rw[jH];exact h)<=200000000:=by rw[qC h];have h1:=hcs cs[s] (Tb h);have h2:sl.count s<=sl.length:=Yc;rcases hk with rfl|rfl<;>omega
theorem Hu{n:Nat}{k:Int}(hS:cs.length=S)(hb:S<=65536)(hk:k=1\/k=-1)(hcs:∀c∈cs,-100000000<=c/\c<=100000000){x:Ex}(hx:x.s+x.n<=S){xb:Nat}(ho:n<=ob)(hne:xb≠ob)(pre:List Nat)(hp:pre.length+x.n<=100000000)(y4 y5 y6 y7 y8 y9 e1 e2 e3 e4:AT):
  ∀(d i:Nat),i+d=x.n->∀(z1:AT) (M:FM) (N:Nat),ob<N->xb<N->M xb=some (.cells [.int .i64 (x.a:Int),.int .i64 (x.n:Int),.int .i64 (x.s:Int)] 0 false true)->M ob=some (.cells (ma (chg k cs (pre++slX x i))) 1 false true)->
  Gv (gD PG EL Y xM [.int .i64 ((x.s+i:Nat):Int),z1,.pointer (some ⟨xb,2,none⟩),.pointer (some ⟨xb,0,none⟩),y4,y5,y6,y7,y8,y9,.slice (some ⟨ob,0,none⟩) S S,e1,e2,e3,e4,.int .i64 k] M N) λX e M' N' w=>(∃z0 z1,X=.exit 2/\e=[z0,z1,.pointer (some ⟨xb,2,none⟩),.pointer (some ⟨xb,0,none⟩),y4,y5,y6,y7,y8,y9,.slice (some ⟨ob,0,none⟩) S S,e1,e2,e3,e4,.int .i64 k])/\N'=N/\(∀b,b≠ob->M' b=M b)/\SL w (bit n)=0/\M' ob=some (.cells (ma (chg k cs (pre++slo x.pr))) 1 false true):=by
 intro d
 induction d with
 |zero=>
  intro i hi z1 M N h1 h2 hx1 hM;refine gA (L:=xM) (b:=si) rfl ?_;simp only[si];obtain rfl:i=x.n:=by omega
  rw[ui]at hM;simp(disch:=omega)only[W_,eu,to,hx1];exact⟨⟨_,_,rfl⟩,λ_ _=>trivial,hM⟩
 |succ d ih=>
  intro i hi z1 M N h1 h2 hx1 hM;refine gA (L:=xM) (b:=si) rfl ?_;simp only[si];have hs:x.s+i<cs.length:=by omega
  have hlen:(pre++slX x i).length<=100000000:=by simp[slX];omega
  have hb:=aeu hk hcs hlen hs;have g1:=oi (l:=chg k cs (pre++slX x i)) (j:=x.s+i) (by rw[jH];exact hs);have g2:=NO (l:=chg k cs (pre++slX x i)) (j:=x.s+i) ((chg k cs (pre++slX x i))[x.s+i]'(by rw[jH];exact hs)+k) (by rw[jH];exact hs);rw[OO hs,S6,<-q']at g2;simp(disch:=omega)only[W_,eu,to,hx1,hM,g1,g2];exact gR (ih (i+1) (by omega) _ _ _ h1 h2 ((en _ _ _ _ hne).trans hx1) (eB _ _ _)) λX e m n w ⟨q1,q2,q3,q4,q5⟩=>⟨q1,q2,λb hb=>(q3 b hb).trans (en _ _ _ _ hb),(by simp(disch:=omega)only[fB,eS,eR,and_self,q4]),q5⟩
theorem Ht{m:FM}{n:Nat}{k:Int}{L:List Ex}(hL:Exs m n lv L)(hS:cs.length=S)(hSb:S<=65536)(hk:k=1\/k=-1)(hl:∀x∈L,x.s+x.n<=S)(hn:lens L<=1000000)(hll:L.length<=1000000)(hcs:∀c∈cs,-100000000<=c/\c<=100000000){ob:Nat}(ho:n<=ob)(e4 e5 e6:AT):
  ∀(d j:Nat),j+d=L.length->∀(x1:AT) (M:FM) (N:Nat),ob<N->(∀b,b<n->M b=m b)->M ob=some (.cells (ma (chg k cs (slo (prs (L.take j))))) 1 false true)->
  Gv (gD PG EL Y xL [.int .i64 (j:Int),x1,.int .i64 (L.length:Int),.slice (some ⟨ob,0,none⟩) S S,e4,e5,e6,lv,.int .i64 k] M N) λX e M' N' w=>(∃z0 z1,X=.exit 0/\e=[z0,z1,.slice (some ⟨ob,0,none⟩) S S,e4,e5,e6,lv,.int .i64 k])/\N<=N'/\(∀b,b<N->b≠ob->M' b=M b)/\SL w (bit n)=0/\M' ob=some (.cells (ma (chg k cs (slo (prs L)))) 1 false true):=by
 have q:=hL.gO;have o:=hL.one;intro d
 induction d with
 |zero=>
  intro j hj x1 M N hN hf hM;refine gA (L:=xL) (b:=sf) rfl ?_;simp only[sf];obtain rfl:j=L.length:=by omega
  rw[List.take_length]at hM;simp(disch:=omega)only[W_,eu,to];exact⟨⟨_,_,rfl⟩,IN _,λ_ _ _=>trivial,hM⟩
 |succ d ih=>
  intro j hj x1 M N hN hf hM;obtain⟨b,rest,opn,wr,hi,hb,hm⟩:=hL.at (by omega);have hmM:=(hf b hb).trans hm;obtain⟨c1,c2,c3,c4⟩:=jF (l:=L) (j:=j) rest (by omega);refine gA (L:=xL) (b:=sf) rfl ?_;simp only[sf];have hxl:=hl L[j] (Tb _)
  have hle:lens (L.take j)+L[j].n<=1000000:=by
   have h1:lens L=lens (L.take j)+lens (L.drop j):=by rw[<-gF,List.take_append_drop]
   rw[Tx (by omega),gH]at h1;omega
  have hpre:(slo (prs (L.take j))).length+L[j].n<=100000000:=by rw[show(slo (prs (L.take j))).length=(prs (L.take j)).length from SC ..,kR];omega
  have htk:slo (prs (L.take (j+1)))=slo (prs (L.take j))++slo L[j].pr:=by rw[List.take_succ_eq_append_getElem (by omega),iZ,jw];simp[prs]
  simp(disch:=omega)only[W_,eu,to,hi j (by omega),hmM,c1,o,q];have hM0:(If M N (some (.cells [.int .i64 (L[j].a:Int),.int .i64 (L[j].n:Int),.int .i64 (L[j].s:Int)] 0 false true)):FM) ob=some (.cells (ma (chg k cs (slo (prs (L.take j))++slX L[j] 0))) 1 false true):=by rw[en _ _ _ _ (by omega),hM];simp[slX]
  have hl0:=Hu (Y:=Y) (n:=n) hS hSb hk hcs hxl ho (xb:=N) (by omega) (slo (prs (L.take j))) hpre (.agg #[.int .i64 (L[j].a:Int),.int .i64 (L[j].n:Int),.int .i64 (L[j].s:Int)]) (.pointer (some ⟨b,j*3,none⟩)) (.bool true) (.int .i64 (j:Int)) x1 (.int .i64 (L.length:Int)) e4 e5 e6 lv L[j].n 0 (by omega) (.int .i64 (L[j].s:Int)) _ (N+1) (by omega) (by omega) (eB _ _ _) hM0;rw[Ve]at hl0;refine ic hl0 λX e M' N' r w ⟨⟨z0,z1,hX,he⟩,q2,q3,q4,q5⟩=>?_;subst hX he q2;rw[<-htk]at q5;simp(disch:=omega)only[W_,eu,to];exact gR (ih (j+1) (by omega) _ _ _ (by omega) (λb hb=>(q3 b (by omega)).trans ((en _ _ _ _ (by omega)).trans (hf b hb))) q5) λX e m n w ⟨p1,p2,p3,p4,p5⟩=>⟨p1,by omega,λb hb hne=>(p3 b (by omega) hne).trans ((q3 b hne).trans (en _ _ _ _ (by omega))),(by simp(disch:=omega)only[fB,eS,eR,and_self,q4,p4]),p5⟩
theorem uQ{k:Int}{cv:AT}{L:List Ex}(hc:Cts m n cv cs)(hL:Exs m n lv L)(hS:cs.length=S)(h0:0<S)(hb:S<=65536)(hk:k=1\/k=-1)(hl:∀x∈L,x.s+x.n<=S)(hn:lens L<=1000000)(hll:L.length<=1000000)(hcs:∀c∈cs,-100000000<=c/\c<=100000000):
  Kp (fL PG EL Y 245 [.agg #[cv],lv,.int .i64 k] m n) m n λv m' n'=>∃cv',v=.agg #[cv']/\Cts m' n' cv' (chg k cs (slo (prs L))):=by
 refine gG (R:=λv m' n'=>∃cv',v=.agg #[cv']/\Cts m' n' cv' (chg k cs (slo (prs L)))) e245 rfl λQ hQ=>?_;simp only[Qm];have l:=hL.len;have q:=hL.gO;have o:=hL.one;obtain⟨b,cap,opn,wr,rfl,hb1,hm⟩:=hc;rw[hS];simp(disch:=omega)only[W_,eu,to,l];rw[abc (o2:=false) (cs:=cs) (ds:=U2 S 0) 2 0 (by rw[List.length_replicate];rfl) (by rw[hS];rfl) (by omega) (by omega) (by rw[en _ _ _ _ (by omega),en _ _ _ _ (by omega),en _ _ _ _ (by omega)];exact hm) (by rw[eB];simp[ma]) (by simp[hS]) (by omega)];simp(disch:=omega)only[W_,eu,to,l];have l1:∀b',b'<n+2->(If (If (If m n (some (.cells [.slice (some ⟨b,0,none⟩) S cap] 0 false true))) (n+1) (some (.cells [.slice none 0 0] 0 false true))) (n+2) (some (.cells (ma cs) 1 false true)):FM) b'=(If (If m n (some (.cells [.slice (some ⟨b,0,none⟩) S cap] 0 false true))) (n+1) (some (.cells [.slice none 0 0] 0 false true)):FM) b':=λb' hb'=>gu;refine ic (Ht (m:=m) (n:=n) (ob:=n+2) hL hS hb hk hl hn hll hcs (by omega) _ _ _ L.length 0 (by omega) _ _ (n+3) (by omega) (λb' hb'=>(l1 b' (by omega)).trans ((en _ _ _ _ (by omega)).trans (en _ _ _ _ (by omega)))) (by rw[eB];simp[prs,slo,abw])) λX e M' N' r w ⟨⟨z0,z1,hX,he⟩,q2,q3,q4,q5⟩=>?_;subst hX he;have u1:=(q3 (n+1) (by omega) (by omega)).trans ((l1 (n+1) (by omega)).trans (eB _ _ _));simp(disch:=omega)only[W_,eu,to,u1];refine hQ _ _ _ _ _ (by omega) (λb' hb'=>by rw[en _ _ _ _ (by omega),q3 b' (by omega) (by omega),l1 b' (by omega),en _ _ _ _ (by omega),en _ _ _ _ (by omega)]) (by simp(disch:=omega)only[fB,eS,eR,and_self,q4]) rfl ⟨_,rfl,n+2,S,false,true,by rw[jH,hS],by omega,(en _ _ _ _ (by omega)).trans q5⟩
theorem Mq:∀{P:List Pr} {b:Nat},SP P->(∀p∈P,b<=p.1/\p.1<n)->b<=n->P.length+b<=n
 |[],b,_,_,hb=>by simpa using hb
 |p::P,b,h,hp,hb=>by have h1:=hp p (by simp);have hc:=List.pairwise_cons.1 h;have:=Mq (P:=P) (b:=p.1+1) hc.2 (λq hq=>⟨hc.1 q hq,(hp q (SQ _ hq)).2⟩) (by omega);simp only[SA];omega
theorem Vo.Ok.len{v:Vo}(h:v.Ok S):v.P.length<=v.n:=Mq (b:=0) h.sp (λp hp=>⟨Tq _,h.bl p hp⟩) (Tq _)
theorem BN:∀{vs:List Vo},(∀v∈vs,v.Ok S)->(slv vs).length<=vs.length*65536
 |[],_=>by simp[slv]
 |v::vs,h=>by have:=BN (vs:=vs) λw hw=>h w (SQ _ hw);have h1:=(h v (by simp)).len;have h2:=(h v (by simp)).n2;rw[nS,IT,show(slo v.P).length=v.P.length from SC ..,SA];omega
def cnt(S:Nat)(vs:List Vo):List Int:=(mF S (slv vs)).map Int.ofNat
theorem CA{vs:List Vo}(h:Inv S vs):∀c∈cnt S vs,(-100000000:Int)<=c/\c<=100000000:=by
 intro c hc;obtain⟨k,hk,rfl⟩:=Us.1 hc;obtain⟨s,_,rfl⟩:=Us.1 hk;have h1:=Yc (a:=s) (l:=slv vs);have h2:=BN h.vok;have h3:=h.few;have:((slv vs).count s:Int)<=100000000:=by have:vs.length*65536<=32*65536:=Nat.mul_le_mul_right _ h3;omega
 exact⟨by show(-100000000:Int)<=(((slv vs).count s:Nat):Int);omega,this⟩
theorem E'{l:List Nat}(h:l'.Perm (l++q)):chg 1 ((mF S l).map Int.ofNat) q=(mF S l').map Int.ofNat:=by
 refine Wn (by rw[jH,SC,SC,ib,ib]) λi h1 h2=>?_;have hi:i<S:=by rw[jH,SC,ib]at h1;exact h1
 rw[qC (by rw[SC,ib];exact hi)];simp only[mF,Wo,Yj];have:=h.count_eq i;rw[TH]at this;show((l.count i:Nat):Int)+1*_=((l'.count i:Nat):Int);omega
theorem zG{l:List Nat}(h:l.Perm (l'++q)):chg (-1) ((mF S l).map Int.ofNat) q=(mF S l').map Int.ofNat:=by
 refine Wn (by rw[jH,SC,SC,ib,ib]) λi h1 h2=>?_;have hi:i<S:=by rw[jH,SC,ib]at h1;exact h1
 rw[qC (by rw[SC,ib];exact hi)];simp only[mF,Wo,Yj];have:=h.count_eq i;rw[TH]at this;show((l.count i:Nat):Int) + -1*_=((l'.count i:Nat):Int);omega
theorem Bj{L:List Ex}(hV:VL L)(hp:prs L=P)(hs:∀p∈P,p.2<S):∀x∈L,1<=x.n/\x.s+x.n<=S:=λx hx=>by
 have h1:=hV.1 x hx;unfold Ex.ok at h1
 have:=hs (x.a+(x.n-1),x.s+(x.n-1)) (by
  rw[<-hp]
  exact List.mem_flatMap.2 ⟨x,hx,Ex.iH.2 ⟨by dsimp only;omega,by dsimp only;omega,by dsimp only;omega⟩⟩)
 dsimp only at this;omega
theorem vm{L:List Ex}(hV:VL L):L.length<=lens L:=by
 have:∀{L:List Ex},(∀x∈L,x.ok)->L.length<=lens L:=by
  intro L
  induction L with
  |nil=>intro _;exact IN _
  |cons x L ih=>intro h;have h1:=h x (by simp);unfold Ex.ok at h1;have:=ih λy hy=>h y (SQ _ hy);rw[SA,gH];omega
 exact this hV.1
end Go.Am.CR
namespace Go.Am
open Go
def bt(s:ByteArray)(i:Nat):Nat:=(s.data.toList.getD i 0).toNat
theorem RI{a b:ByteArray}(h:a.data.toList=b.data.toList):a=b:=by cases a;cases b;simp only[ByteArray.mk.injEq];exact Array.toList_inj.1 h
theorem H7(s:ByteArray):s.data.toList.length=s.size:=by cases s;rfl
theorem OQ{s:ByteArray}{i:Nat}(h:i<s.size):IY s i=some (.int .u8 (bt s i:Int)):=by
 have h1:i<s.data.toList.length:=by rw[H7];exact h
 unfold IY bt;rw[SH h1,List.getD_eq_getElem?_getD,SH h1];rfl
theorem I0(a b:ByteArray):(a.toList==b.toList)=decide (a=b):=by
 rw[XF,XF];by_cases h:a=b
 ·subst h;simp
 ·rw[decide_eq_false h];simp only[beq_eq_false_iff_ne,ne_eq];exact λe=>h (RI e)
section
variable{P:SZ}{rec:Nat->List AT->FM->Nat->OR FM}{e:List AT}{m:FM}{n:Nat}
theorem aa1(t:Nat)(a b:ByteArray):nk P .eql t (.string a) (.string b)=some (.bool (decide (a=b))):=by rw[<-I0];rfl
theorem IA(t:Nat)(a b:ByteArray):nk P .neq t (.string a) (.string b)=some (.bool (!decide (a=b))):=by rw[<-I0];rfl
theorem t_pur(op:POp)(xs:List Opd):gV P rec e m n (.pur op xs)=iK m n (wW P op (evs e xs)):=rfl
theorem RE(x:AT)(k:IntKind):wW P .byte [x,.int k 0]=Hq 0 x:=rfl
theorem RD(x:AT)(k:IntKind)(i:Nat):wW P .byte [x,.int k (i:Int)]=Hq i x:=rfl
theorem t_chr{s:ByteArray}{i:Nat}(h:i<s.size):Hq i (.string s)=some (.int .u8 (bt s i:Int)):=OQ h
theorem ado(x:AT)(k:IntKind)(c:Nat):wW P (.ind c) [x,.int k 0]=GU c 0 x:=rfl
theorem adn(x:AT)(k:IntKind)(c i:Nat):wW P (.ind c) [x,.int k (i:Int)]=GU c i x:=rfl
theorem t_agg{c i:Nat}(cs:Array AT)(h:i<c):GU c i (.agg cs)=lC cs.toList i:=by show cond (Te i c) _ none=_;rw[show Te i c=true from UM h];rfl
theorem Mm{s:ByteArray}{k:IntKind}{a:Nat}(h:a<=s.size):wW P .subl [.string s,.int k (a:Int)]=some (.string (s.extract a s.size)):=by show cond (Tj a s.size&&Tj s.size s.size) (some (Value.string (s.extract a s.size))) none=_;rw[show Tj a s.size=true from UM h,show Tj s.size s.size=true from UM (IN _)];rfl
theorem RC{s:ByteArray}{k:IntKind}(h:1<=s.size):wW P .subl [.string s,.int k 1]=some (.string (s.extract 1 s.size)):=Mm (a:=1) h
theorem adm{s:ByteArray}{k:IntKind}{b:Nat}(h:b<=s.size):wW P .subh [.string s,.int k (b:Int)]=some (.string (s.extract 0 b)):=by show cond (Tj 0 b&&Tj b s.size) (some (Value.string (s.extract 0 b))) none=_;rw[show Tj b s.size=true from UM h,show Tj 0 b=true from UM (Tq _)];rfl
def STs0:=EQS.mk (aI (aI (aI @aa1 @IA) (aI @t_pur @RE)) (aI (aI (aI @RD @t_chr) (aI @ado @adn)) (aI (aI @t_agg @Mm) (aI @RC @adm))))
theorem STs:type_of% STs0.out:=STs0.out
end
end Go.Am
namespace Go.Am.CR
set_option maxRecDepth 100000
open Go Go.Am
variable{Y:Nat->List AT->FM->Nat->OR FM}
variable{n bb:Nat}{m:FM}{cs:List Int}{cv lv:AT}
theorem Gl(hb:bb<n)(hm:m bb=some (.cells [cv] 0 false true))(hc:Cts m n cv cs)(hS:cs.length<=65536){x:Ex}(h1:1<=x.n)(h2:x.s+x.n<=cs.length):Pure (fL PG EL Y 323 [.bool true,.agg x.cs.toArray,.pointer (some ⟨bb,0,none⟩)] m n) m n (.bool true):=by refine gC e323 rfl rfl ?_;simp only[PK,Ex.cs];have l:=hc.len;have o:=hc.one;simp(disch:=omega)only[W_,eu,to,hm,l,o]
theorem Sr{L:List Ex}(hb:bb<n)(hm:m bb=some (.cells [cv] 0 false true))(hc:Cts m n cv cs)(hS:cs.length<=65536)(hL:Exs m n lv L)(hl:∀x∈L,1<=x.n/\x.s+x.n<=cs.length)(hll:L.length<=1000000)(e4 e5:AT):
  ∀(d j:Nat),j+d=L.length->∀(x2:AT) (M:FM) (N:Nat),n<=N->(∀b,b<n->M b=m b)->
  Gv (gD PG EL Y xI [.bool true,.int .i64 (j:Int),x2,.int .i64 (L.length:Int),e4,lv,e5,.func (.func 323) #[] #[.pointer (some ⟨bb,0,none⟩)]] M N) λX e M' N' w=>(∃z1 z2,X=.exit 0/\e=[.bool true,z1,z2,e4,lv,e5,.func (.func 323) #[] #[.pointer (some ⟨bb,0,none⟩)]])/\SL w (bit n)=0:=by
 have q:=hL.gO;have o:=hL.one;intro d
 induction d with
 |zero=>
  intro j hj x2 M N hN hf;refine gA (L:=xI) (b:=rY) rfl ?_;simp only[rY];obtain rfl:j=L.length:=by omega
  simp(disch:=omega)only[W_,eu,to];exact⟨_,_,rfl⟩
 |succ d ih=>intro j hj x2 M N hN hf;obtain⟨b,rest,opn,wr,hi,hb1,hm1⟩:=hL.at (by omega);have hmM:=(hf b hb1).trans hm1;obtain⟨c1,c2,c3,c4⟩:=jF (l:=L) (j:=j) rest (by omega);obtain⟨h1,h2⟩:=hl L[j] (Tb _);refine gA (L:=xI) (b:=rY) rfl ?_;simp only[rY];simp(disch:=omega)only[W_,eu,to,hi j (by omega),hmM,c1,o,q,oN,nj];refine fF (Gl (x:=L[j]) (by omega) ((en _ _ _ _ (by omega)).trans ((hf bb hb).trans hm)) (hc.frame (by omega) λk hk=>gJ (by omega) (hf k hk)) hS h1 h2) λr1=>?_;simp(disch:=omega)only[W_,eu,to];exact gR (ih (j+1) (by omega) _ _ _ (by omega) (λk hk=>gJ (by omega) (hf k hk))) λX e m n w ⟨p1,p2⟩=>⟨p1,(by simp(disch:=omega)only[fB,eS,eR,and_self,p2])⟩
theorem KE{L:List Ex}(hb:bb<n)(hm:m bb=some (.cells [cv] 0 false true))(hc:Cts m n cv cs)(hS:cs.length<=65536)(hL:Exs m n lv L)(hl:∀x∈L,1<=x.n/\x.s+x.n<=cs.length)(hll:L.length<=1000000):Pure (fL PG EL Y 322 [lv,.bool true,.func (.func 323) #[] #[.pointer (some ⟨bb,0,none⟩)]] m n) m n (.bool true):=by refine gC e322 rfl rfl ?_;simp only[PL];have l:=hL.len;simp(disch:=omega)only[W_,eu,to,l];refine ic (Sr hb hm hc hS hL hl hll _ _ L.length 0 (by omega) _ m n (IN _) λ_ _=>rfl) λX e M' N' r w ⟨⟨z1,z2,hX,he⟩,hw⟩=>?_;subst hX he;simp(disch:=omega)only[W_,eu,to,hw]
theorem rj{L:List Ex}(hc:Cts m n cv cs)(hS:cs.length<=65536)(hL:Exs m n lv L)(hl:∀x∈L,1<=x.n/\x.s+x.n<=cs.length)(hll:L.length<=1000000):Pure (fL PG EL Y 244 [.agg #[cv],lv] m n) m n (.bool true):=by refine gC e244 rfl rfl ?_;simp only[Qn];have o:=hL.one;have o1:=hc.one;simp(disch:=omega)only[W_,eu,to,o,o1,dW o1,yA];refine fF (KE (by omega) (eB _ _ _) (hc.frame (by omega) λb hb=>gu) hS (hL.frame (by omega) λb hb=>gu) hl hll) λr1=>?_;simp(disch:=omega)only[W_,eu,to]
theorem Fy{L:List Ex}(hc:Cts m n cv cs)(hL:Exs m n lv L)(h0:0<cs.length)(hb:cs.length<=65536)(hl:∀x∈L,1<=x.n/\x.s+x.n<=cs.length)(hn:lens L<=1000000)(hll:L.length<=1000000)(hcs:∀c∈cs,-100000000<=c/\c<=100000000):
  Kp (fL PG EL Y 167 [.agg #[cv],lv] m n) m n λv m' n'=>∃cv',v=.tuple #[.agg #[cv'],.int .i64 0]/\Cts m' n' cv' (chg 1 cs (slo (prs L))):=by
 refine gG (R:=λv m' n'=>∃cv',v=.tuple #[.agg #[cv'],.int .i64 0]/\Cts m' n' cv' (chg 1 cs (slo (prs L)))) e167 rfl λQ hQ=>?_;simp only[QK];have o:=hL.one;have o1:=hc.one;simp(disch:=omega)only[W_,eu,to,o,o1,dW o1];have fr:∀b,b<n->(If (If m n (some (.cells [cv] 0 false true))) (n+1) (some (.cells [.slice none 0 0] 0 false true)):FM) b=m b:=λb hb=>(en _ _ _ _ (by omega)).trans (en _ _ _ _ (by omega));refine fF (rj (hc.frame (N':=n+2) (by omega) fr) hb (hL.frame (by omega) fr) hl hll) λr1=>?_;simp(disch:=omega)only[W_,eu,to,o,o1];refine fI (uQ (k:=1) (hc.frame (N':=n+2) (by omega) fr) (hL.frame (by omega) fr) rfl h0 hb (.inl rfl) (λx hx=>(hl x hx).2) hn hll hcs) λv1 M1 n1 r1 w1 ⟨k1,f1,g1,cv',hv1,C1⟩=>?_;subst hv1;have u1:=(f1 (n+1) (by omega)).trans (eB _ _ _);have o2:=C1.one;simp(disch:=omega)only[W_,eu,to,u1,o2,dW o2];refine hQ _ _ _ _ _ (by omega) (λb hb=>by rw[en _ _ _ _ (by omega),f1 b (by omega),fr b hb]) (by simp(disch:=omega)only[fB,eS,eR,and_self,g1]) rfl ⟨cv',rfl,C1.other u1 (by simp) λb hb=>en _ _ _ _ hb⟩
theorem aae{s:Nat}(hc:Cts m n cv cs)(hS:cs.length<=65536)(hs:s<cs.length):Pure (fL PG EL Y 283 [.agg #[cv],.int .i64 (s:Int)] m n) m n (.int .i64 cs[s]):=by refine gC e283 rfl rfl ?_;simp only[PU];have o1:=hc.one;have l:=hc.len;obtain⟨b,cap,opn,wr,rfl,hb1,hm⟩:=hc;have g:=oi hs;simp(disch:=omega)only[W_,eu,to,l,hm,g]
theorem FY(hc:Cts m n cv cs):Pure (fL PG EL Y 346 [.agg #[cv]] m n) m n (.int .i64 (cs.length:Int)):=by refine gC e346 rfl rfl ?_;simp only[Py];have o1:=hc.one;have l:=hc.len;simp(disch:=omega)only[W_,eu,to,o1,l,dW o1]
theorem J'{S:Nat}(hS:S<=65536):Kp (fL PG EL Y 88 [.int .i64 (S:Int)] m n) m n λv m' n'=>∃cv',v=.tuple #[.agg #[cv'],.int .i64 0]/\Cts m' n' cv' (U2 S 0):=by refine gG (R:=λv m' n'=>∃cv',v=.tuple #[.agg #[cv'],.int .i64 0]/\Cts m' n' cv' (U2 S 0)) e88 rfl λQ hQ=>?_;simp only[aeQ];simp(disch:=omega)only[W_,eu,to];refine hQ _ _ _ _ _ (by omega) (λb hb=>by rw[en _ _ _ _ (by omega),en _ _ _ _ (by omega),en _ _ _ _ (by omega)]) (by simp(disch:=omega)only[fB,eS,eR,and_self]) rfl ⟨_,rfl,n+1,S,false,true,by simp,by omega,by rw[en _ _ _ _ (by omega),eB];simp[ma]⟩
end Go.Am.CR
