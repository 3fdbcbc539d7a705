/- The machine and its runs, part 17. -/
import Derived.Test.YtiibhndkoknmnaaGreatDoorB16
set_option linter.unusedVariables false
set_option linter.unusedSimpArgs false
open Go renaming Value→AT
open List renaming length_append→IT,length_map→SC,cons_append→SK,nil_append→SJ,getElem_mem→Tb,drop_eq_getElem_cons→Tx,flatMap_cons→TO,append_assoc→S6,mem_filter→TY,length_filter_le→Um,drop_zero→UZ,mem_cons_self→Tk,mem_cons_of_mem→SQ,length_cons→SA,mem_map→Us,mem_cons→TG
open Nat renaming mod→SL,reduceAdd→to,testBit→U5,reduceShiftRight→AS,reduceAnd→By,reduceBNe→BY,le_refl→IN,add_zero→Ve,zero_le→Tq,zero_testBit→TD,blt→Te,lt_of_lt_of_le→TC,reduceMul→IS
open Prod renaming snd→Vv
open Go.Am.AMem renaming put→If
namespace Go.Am.CR
set_option maxRecDepth 100000
open Go Go.Am
variable{Y:Nat->List AT->FM->Nat->OR FM}
variable{S N n k b N' a s mb ob pb k0:Nat}{vs vs':List Vo}{M m M':FM}{v dm dv res wv:AT}{c cs:List AT}{o w:Bool}{note:List Nat}{L:List Wt}
theorem IP{x:Ex}(h:x.ok):(exN x).length<=9:=by unfold Ex.ok at h;have h1:=jk (k:=x.a) (by omega);have h2:=jk (k:=x.n) (by omega);have h3:=jk (k:=x.s) (by omega);rw[exN,IT,IT];omega
theorem Br{bs ns:List Nat}(h:Bts m n v bs)(hb:bs≠[])(hl:bs.length<=990)(hn:∀k∈ns,k<=500000)(hl2:ns.length<=5)(hc:c=ma (ns.map Int.ofNat)){len:Nat}(hlen:len=ns.length)(k:Nat):Rt (fL PG EL Y 36 [v,.slice (some ⟨n,0,none⟩) len k] (If m n (some (.cells c 1 false true))) (n+1)) λv' m' n' w=>n+1<=n'/\(∀b,b<n->m' b=m b)/\(∀j,j<=n->SL w (bit j)=0)/\Bts m' n' v' (bs++ns.flatMap gL):=by subst hc hlen;have fr:∀b,b<n->(If m n (some (.cells (ma (ns.map Int.ofNat)) 1 false true)):FM) b=m b:=λb hb=>gu;refine(AM (h.frame (N':=n+1) (by omega) fr) hb (ns:=ns) ⟨n,k,false,true,by rw[SC],by omega,eB _ _ _⟩ hn (by omega) hl2).mono λv' m' n' w ⟨k1,f1,g1,h1⟩=>⟨k1,λb hb=>(f1 b (by omega)).trans (fr b hb),λj hj=>g1 j (by omega),h1⟩
theorem Sn{lv:AT}{L:List Ex}(hL:Exs m n lv L)(hV:∀x∈L,x.ok)(hl:L.length<=20)(e4 e5:AT)(tl:List AT):
  ∀(d j:Nat),j+d=L.length->∀(bv x2:AT) (bs:List Nat) (M:FM) (N:Nat),n<=N->(∀b,b<n->M b=m b)->Bts M N bv bs->bs≠[]->bs.length+d*9<=990->
  Gv (gD PG EL Y xW ([bv,.int .i64 (j:Int),x2,.int .i64 (L.length:Int),e4,e5,lv]++tl) M N) λX e M' N' w=>(∃bv' z1 z2,X=.exit 2/\e=[bv',z1,z2,e4,e5,lv]++tl/\Bts M' N' bv' (bs++(L.drop j).flatMap exN))/\N<=N'/\(∀b,b<n->M' b=m b)/\SL w (bit n)=0:=by
 intro d
 induction d with
 |zero=>
  intro j hj bv x2 bs M N hN hf hB hne hbl;have o:=hB.one;refine gA (L:=xW) (b:=sC) rfl ?_;simp only[sC,SK,SJ];obtain rfl:j=L.length:=by omega
  simp(disch:=omega)only[W_,eu,to,U5,AS,By,BY];refine⟨⟨bv,x2,_,rfl,?_⟩,IN _,hf⟩;rw[List.drop_length,List.flatMap_nil,List.append_nil];exact hB
 |succ d ih=>intro j hj bv x2 bs M N hN hf hB hne hbl;have o:=hB.one;obtain⟨b,rest,opn,wr,hi,ha,hm⟩:=hL.at (by omega);have hmM:=(hf b ha).trans hm;obtain⟨c1,c2,c3,c4⟩:=jF (l:=L) (j:=j) rest (by omega);have hx:=hV L[j] (Tb _);have hxl:=IP hx;unfold Ex.ok at hx;have ol:=hL.one;refine gA (L:=xW) (b:=sC) rfl ?_;simp only[sC,SK,SJ];simp(disch:=omega)only[W_,eu,to,U5,AS,By,BY,hi j (by omega),hmM,c1,o,ol];refine fI (Br (ns:=[L[j].a,L[j].n,L[j].s]) (hB.frame (N':=N+1) (by omega) λb hb=>gu) hne (by omega) (by simp;omega) (by simp) rfl rfl _) λv1 M1 n1 r1 w1 ⟨k1,f1,g1,B1⟩=>?_;have o1:=B1.one;simp(disch:=omega)only[W_,eu,to,U5,AS,By,BY,o1];rw[show[L[j].a,L[j].n,L[j].s].flatMap gL=exN L[j] by simp[exN]]at B1;refine gR (ih (j+1) (by omega) v1 _ (bs++exN L[j]) M1 n1 (by omega) (λc hc=>(f1 c (by omega)).trans ((en _ _ _ _ (by omega)).trans (hf c hc))) B1 (by simp[hne]) (by rw[IT];omega)) λX e m' n' w ⟨⟨bv',z1,z2,p1,p2,p3⟩,q2,q3,q4⟩=>⟨⟨bv',z1,z2,p1,p2,?_⟩,by omega,q3,(by simp(disch:=omega)only[fB,eS,eR,and_self,g1,q4])⟩;rw[Tx (by omega),TO,<-S6];exact p3
def acR(S:Nat)(vs:List Vo)(s:ByteArray)(a k:Nat):Prop:=∃v,gK vs s=some v/\a+k<=v.n/\pG vs v a k<=(ix vs v:Int)+max 0 (room S vs)
def FE(S:Nat)(vs:List Vo)(s:ByteArray)(a:Nat)(ds:List (List Int))(res:AT)(M:FM)(N:Nat):Prop:=
 (∃e:Int,e≠0/\res=.tuple #[.slice none 0 0,.slice none 0 0,.int .i64 e]/\¬acR S vs s a ds.length)\/
 ∃v xs W wv nv,gK vs s=some v/\a+ds.length<=v.n/\pG vs v a ds.length<=(ix vs v:Int)+max 0 (room S vs)/\PlanOk S vs v a ds.length xs W/\res=.tuple #[wv,nv,.int .i64 0]/\SlZ 9 M 0 N wv (W.zip ds).length (wrC (W.zip ds))/\Bts M N nv (jD 1 s++(gL xs.length++xs.flatMap exN))
theorem FE.flat{s:ByteArray}{ds:List (List Int)}(hf:gy res=true)(h:FE S vs s a ds res M N):FE S vs s a ds res M' N':=by
 rcases h with h|⟨v,xs,W,wv,nv,h1,h2,h3,h4,rfl,h5,h6⟩
 ·exact .inl h
 ·rcases h6 with⟨h6,_⟩|⟨b,k,rest,o,w,rfl,_⟩
  ·exact absurd h6 (by simp[kI])
  ·exfalso;revert hf;show(([wv,Value.slice (some ⟨b,0,none⟩) _ k,Value.int IntKind.i64 0]:List AT).all Am.flat=true)->False;simp[Am.flat]
set_option maxHeartbeats 4000000 in
theorem J2(hU:YUp Y)(hC:me Y)(hN:qS Y)(hY:jf Y)(hCo:Ag Y)(h:j6 S m n b vs)(hI:Inv S vs)(hr:0<=room S vs)(hS:S<=65536)(h0:0<S){s:ByteArray}(hs:nameOk s){a:Nat}{ds:List (List Int)}(hd:jn m n dv ds)(h1:1<=ds.length)(h2:ds.length<=16)(ha:a+ds.length<=65536):
  Kp (fL PG EL Y 118 [mP b,.string s,.int .i64 (a:Int),dv] m n) m n λres m' n'=>FE S vs s a ds res m' n':=by
 refine gN (R:=λres m' n'=>FE S vs s a ds res m' n') e118 rfl (λ_ _ _ hf h=>h.flat hf) λQ hQ=>?_;obtain⟨hb,cv,mv,hm,hF⟩:=h;have o1:=hF.c.one;have o2:=hF.m.one;have od:=hd.one;have ld:=hd.len;simp only[QW,mP];simp(disch:=omega)only[W_,eu,to,U5,AS,By,BY,lg,hm,o1,o2,od]
 cases hv:gK vs s with
 |none=>refine fI (NQ hF hv) λv1 M1 n1 r1 w1 ⟨k1,f1,g1,hv1⟩=>?_;subst hv1;simp(disch:=omega)only[W_,eu,to,U5,AS,By,BY,NR];exact hQ _ _ _ _ _ (by omega) (λc hc=>gJ (by omega) (f1 c hc)) (by simp(disch:=omega)only[fB,eS,eR,and_self,g1]) (.inl ⟨9,by decide,rfl,λ⟨v,h,_⟩=>by rw[hv]at h;cases h⟩)
 |some v=>
  have hvo:=hI.found hv;have hvn:=hvo.n2;refine fI (pI hU hC hF hI hS hv) λv1 M1 n1 r1 w1 ⟨k1,f1,g1,hv1⟩=>?_;subst hv1;have m1:=(f1 b hb).trans hm;simp(disch:=omega)only[W_,eu,to,U5,AS,By,BY,rF,od,ld,lg,m1,o1,o2];have f2:∀c,c<n->(If M1 n1 (some (.cells [.string v.nm,.int .i64 (v.n:Int),.int .i64 (v.r:Int),.int .i64 (v.P.length:Int),.int .i64 (ij vs v.P:Int)] 0 false true)):FM) c=m c:=λc hc=>gJ (by omega) (f1 c hc);revert f2;generalize (If M1 n1 (some (.cells [.string v.nm,.int .i64 (v.n:Int),.int .i64 (v.r:Int),.int .i64 (v.P.length:Int),.int .i64 (ij vs v.P:Int)] 0 false true)):FM)=M2;intro f2;have F2:=hF.frame (N':=n1+1) (by omega) f2;have m2:=(f2 b hb).trans hm;by_cases hk:a+ds.length<=v.n
  case neg=>obtain⟨e,he,hne⟩:=Nq (Y:=Y) (a:=a) (k:=ds.length) F2 ha (s:=s) (λv' hv'=>by rw[hv]at hv';injection hv' with hv';subst hv';exact⟨hvn,by omega⟩);refine fF hne λr2=>?_;simp(disch:=omega)only[W_,eu,to,U5,AS,By,BY,he];exact hQ _ _ _ _ _ (by omega) f2 (by simp(disch:=omega)only[fB,eS,eR,and_self,g1]) (.inl ⟨e,he,rfl,λ⟨v',h,h6,_⟩=>by rw[hv]at h;injection h with h;subst h;omega⟩)
  refine fF (AO F2 hI hS hv hk) λr2=>?_;rw[show((ds.length:Nat):Int)-(ij vs (kY a (a+ds.length) v.P):Int)=pG vs v a ds.length from rfl,<-xq hvo.sp];simp(disch:=omega)only[W_,eu,to,U5,AS,By,BY,m2,o1,o2,od,ld,lg];refine fF (Aq hU hC hN hY F2 hI hS hv hk) λr3=>?_;have hrb:=xi hI hS;have hclr:=hvo.r;have hcl:ix vs v<=65536:=by unfold ix;omega
  by_cases hcw:(ix vs v:Int)+max 0 (room S vs)<pG vs v a ds.length
  case pos=>rw[enE,if_pos hcw];simp(disch:=omega)only[W_,eu,to,U5,AS,By,BY];exact hQ _ _ _ _ _ (by omega) f2 (by simp(disch:=omega)only[fB,eS,eR,and_self,g1]) (.inl ⟨11,by decide,rfl,λ⟨v',h,_,h6⟩=>by rw[hv]at h;injection h with h;subst h;omega⟩)
  rw[enE,if_neg hcw];simp(disch:=omega)only[W_,eu,to,U5,AS,By,BY,od];have hMp:j6 S M2 (n1+1) b vs:=⟨by omega,cv,mv,m2,F2⟩;refine fI (G3 hU hY hCo hMp hI hS h0) λv4 M4 n4 r4 w4 ⟨k4,f4,g4,rv,R,hv4,E4,L4,P4⟩=>?_;subst hv4;have q4:=E4.one;simp(disch:=omega)only[W_,eu,to,U5,AS,By,BY,q4,od,dW q4];have f5:∀c,c<n4->(If M4 n4 (some (.cells [.int .i64 (S:Int),rv] 0 false true)):FM) c=M4 c:=λc hc=>gu;have t5:=eB M4 n4 (some (.cells [.int .i64 (S:Int),rv] 0 false true));have E5:=E4.frame (N':=n4+1) (by omega) f5;revert f5 t5 E5;generalize (If M4 n4 (some (.cells [.int .i64 (S:Int),rv] 0 false true)):FM)=M5;intro f5 t5 E5;have f05:∀c,c<n+1->c<n1+1->M5 c=M2 c:=λc hc hc2=>(f5 c (by omega)).trans (f4 c hc2);have F5:=F2.frame (N':=n4+1) (by omega) λc hc=>(f5 c (by omega)).trans (f4 c hc);have m5:=(f05 b (by omega) (by omega)).trans m2;have q5:=E5.gU;have q5a:=E5.gO;have hfl:∀z∈ko S vs,z<S:=λz hz=>List.mem_range.1 (TY.1 hz).1
  have hfl2:(ko S vs).length<=S:=by
   have:=Um (λz=>(slv vs).count z==0) (List.range S)
   rwa [List.length_range]at this
  have hRn:(sL R).Nodup:=P4.nodup_iff.2 (List.nodup_range.filter _);have hRl:lens R=(ko S vs).length:=by rw[<-iY,P4.length_eq]
  have hRS:∀z∈sL R,z<S:=λz hz=>hfl z (P4.subset hz);obtain⟨t,ht,hh⟩:=Kw (Y:=Y) (S:=S) (m:=M5) (n:=n4+1) (b:=b) ⟨by omega,cv,mv,m5,F5⟩ hI hS hv (a:=a) (by omega);unfold mP at hh;refine FK hU hh λr6 l6=>?_;have Lx:=l6 (n4+1) (by omega);simp(disch:=omega)only[W_,eu,to,U5,AS,By,BY,q5,q5a,Lx];have hvm:v∈vs:=by obtain⟨A,B,rfl,_⟩:=jj hv;simp
  have hcm:=OG hvm;have hnd:ndN vs v a ds.length<=lens R:=by have:=xq (vs:=vs) hvo.sp ds.length a;have h6:room S vs=((ko S vs).length:Int)-jg vs:=rfl;rw[hRl];omega
  refine mw hU (Ml hY E5 L4 hRn (by omega) hRS hS ht hnd) λv7 M7 n7 r7 w7 ⟨k7,f7,g7,lv,W,rv',R',hv7,E7,X7,O7⟩ l7=>?_;subst hv7;have q7:=E7.one;have q7x:=X7.one;have q7b:=E7.HK;have q7f:=E7.gU;have q7a:=E7.gO;have q7xf:=X7.gU;have q7xa:=X7.gO;have Ly:=gE (g7 (n4+1) (IN _)) (show n4<n4+1 by omega);have Lz:=l7 n7 (IN _);have Lw:=l6 n7 (by omega);simp(disch:=omega)only[W_,eu,to,U5,AS,By,BY,q7,q7x,q7b,q7f,q7a,q7xf,q7xa,Lx,Ly,Lz,Lw,iS,jl,iT,dW q7x];have f8:∀c,c<n7->(If M7 n7 (some (.cells [.int .i64 (S:Int),rv'] 0 false true)):FM) c=M7 c:=λc hc=>gu;have E8:=E7.frame (N':=n7+1) (by omega) f8;revert f8 E8;generalize (If M7 n7 (some (.cells [.int .i64 (S:Int),rv'] 0 false true)):FM)=M8;intro f8 E8;have hWS:=acE O7 hRS;have hWl:lens W=ndN vs v a ds.length:=O7.2.1;have hWn:W.length<=lens W:=RL.kP O7.1;refine fI (Dz E8 (λx hx=>by have:=hWS x hx;omega) (by omega) (by omega)) λv9 M9 n9 r9 w9 ⟨k9,f9,g9,F9⟩=>?_;have q9:=F9.one;simp(disch:=omega)only[W_,eu,to,U5,AS,By,BY,q9,od,ld];have f09:∀c,c<n->M9 c=m c:=λc hc=>by rw[f9 c (by omega),f8 c (by omega),f7 c (by omega),f05 c (by omega) (by omega),f2 c hc]
  have f09:∀c,c<n->M9 c=m c:=λc hc=>by rw[f9 c (by omega),f8 c (by omega),f7 c (by omega),f05 c (by omega) (by omega),f2 c hc]
  have F9':=hF.frame (N':=n9) (by omega) f09;have m9:=(f09 b hb).trans hm;have d9:=hd.frame (n':=n9) (by omega) f09;have hfrl:(sL W).length=ndN vs v a ds.length:=by rw[iY];exact hWl
  refine ic (Sp (by omega) m9 F9' hI hS hv d9 h2 hk (by rw[hfrl];omega) _ _ _ _ _ _ _ _ _ _ _ _ _ _ _ _ _ _ _ _ _ ds.length 0 0 [] [] v9 _ _ _ M9 n9 (by omega) (by rw[Nat.zero_add];exact hfrl) (IN _) rfl (IN _) (λ_ _=>rfl) (Own.tl F9) (.inl ⟨rfl,rfl,rfl⟩) (.inl ⟨rfl,rfl,rfl⟩)) λX e M10 n10 r10 w10 ⟨⟨kv,wv,z,hX,he,K10,W10⟩,k10,f10,g10⟩=>?_;subst hX he;rw[SJ,UZ,Ve]at K10;rw[SJ,UZ,UZ,Ve]at W10;have q10:=K10.one;have q10w:=W10.one;simp(disch:=omega)only[W_,eu,to,U5,AS,By,BY,q10,q10w];have hflc:∀z∈sL W,z<S/\(slv vs).count z=0:=λz hz=>by have h6:=P4.subset (O7.2.2.2 z hz);have h7:=(TY.1 h6).2;exact⟨hfl z h6,by simpa using h7⟩
  have hVC:VL (plC vs v a ds.length (sL W)):=by refine⟨λx hx=>?_,Gj vs v _ _ _⟩;have h6:=DP vs v _ _ _ x hx;have h7:x.s∈sL (plC vs v a ds.length (sL W)):=tN.2 ⟨x,hx,IN _,by omega⟩;rw[DO vs v _ _ _ hfrl]at h7;have:=(hflc _ h7).1;unfold Ex.ok;omega
  have hCl:=xj vs v ds.length a (sL W)
  have hCn:ndN vs v a ds.length<=ds.length:=by
   have:=Um (ndS vs v) (List.range' a ds.length)
   rwa [List.length_range']at this
  refine fI (GO (SlZ.exs K10) hVC (by omega)) λv11 M11 n11 r11 w11 ⟨k11,f11,g11,jv,hv11,J11⟩=>?_;subst hv11;obtain⟨V11,P11,L11⟩:=ad3 hVC;have hPl:=adN hvo hS hk hfrl O7.2.2.1 hflc V11 P11 L11;revert J11 V11 P11 L11 hPl;generalize joF (plC vs v a ds.length (sL W))=xs;intro J11 V11 P11 L11 hPl;have q11:=J11.one;have l11:=J11.len;simp(disch:=omega)only[W_,eu,to,U5,AS,By,BY,q11];refine fI (jB (k:=1) (s:=s) (by omega) (by have:=hs.s2;omega)) λv12 M12 n12 r12 w12 ⟨k12,f12,g12,B12⟩=>?_;have q12:=B12.one;simp(disch:=omega)only[W_,eu,to,U5,AS,By,BY,q12,q11,l11];have hx16:=hPl.few;have hhl:=kL (k:=1) (s:=s) (by omega) hs.s2;refine fI (Br B12 (kI _ _) (by omega) (ns:=[xs.length]) (by simp;omega) (by simp) rfl rfl _) λv13 M13 n13 r13 w13 ⟨k13,f13,g13,B13⟩=>?_;have q13:=B13.one;simp(disch:=omega)only[W_,eu,to,U5,AS,By,BY,q13,q11,l11];rw[show[xs.length].flatMap gL=gL xs.length by simp]at B13;have J13:=J11.frame (N':=n13) (by omega) λc hc=>(f13 c (by omega)).trans (f12 c hc);have hel:=jk (k:=xs.length) (by omega);refine ic (Sn J13 V11.1 (by omega) _ _ _ xs.length 0 (by omega) v13 _ _ M13 n13 (IN _) (λ_ _=>rfl) B13 (by simp[kI]) (by rw[IT];omega)) λX e M14 n14 r14 w14 ⟨⟨bv,z1,z2,hX,he,B14⟩,k14,f14,g14⟩=>?_;subst hX he;rw[UZ,S6]at B14;have q14:=B14.one;simp(disch:=omega)only[W_,eu,to,U5,AS,By,BY,q14,SK,SJ];refine fI (uu B14) λv15 M15 n15 r15 w15 ⟨k15,f15,g15,hv15,B15⟩=>?_;subst hv15;have q15:=B15.one;simp(disch:=omega)only[W_,eu,to,U5,AS,By,BY,q15,q10w];have f10':∀c,c<n->M10 c=m c:=λc hc=>(f10 c (by omega)).trans (f09 c hc);have f15':∀c,c<n10->M15 c=M10 c:=λc hc=>by rw[f15 c (by omega),f14 c (by omega),f13 c (by omega),f12 c (by omega),f11 c (by omega)]
  have h10:=jE g10 (show n<=n9 by omega);have h14:=jE g14 (show n<=n13 by omega);refine hQ _ _ _ _ _ (by omega) (λc hc=>(f15' c (by omega)).trans (f10' c hc)) (by simp(disch:=omega)only[fB,eS,eR,and_self,g1,g4,g7,g9,h10,g11,g12,g13,h14,g15]) (.inr ⟨v,xs,_,kv,bv,hv,hk,by omega,hPl,rfl,?_,B15⟩);exact SlZ.low (SlZ.frame W10 (by omega) λc _ hc=>f15' c hc) (Tq _)
inductive Chg(S:Nat)(vs:List Vo):List Nat->List Vo->Prop
 |assign {s:ByteArray} {v:Vo} {xs:List Ex}:nameOk s->gK vs s=some v->xs.length<=16->VL xs->Fre S vs v xs->Chg S vs (jD 1 s++(gL xs.length++xs.flatMap exN)) (iG ⟨s,v.n,v.r,nN xs v.P⟩ vs)
 |Aw {s:ByteArray} {v:Vo} {a k:Nat}:nameOk s->gK vs s=some v->a+k<=v.n->Chg S vs (jD 2 s++(gL a++gL k)) (iG ⟨s,v.n,v.r,jK a v.P++iC (a+k) v.P⟩ vs)
 |rK {s:ByteArray} {k r:Nat}:nameOk s->kW vs s=0->1<=k->k<=65536->r<=k->Chg S vs (jD 3 s++(gL k++gL r)) (iG ⟨s,k,r,[]⟩ vs)
 |clone {s t:ByteArray} {v:Vo}:nameOk s->nameOk t->gK vs s=some v->kW vs t=0->Chg S vs (jD 4 s++gL t.size++kN t) (iG ⟨t,v.n,0,v.P⟩ vs)
 |delete {s:ByteArray}:nameOk s->gK vs s≠none->Chg S vs (jD 5 s) (pU s vs)
theorem Chg.inv(h:Chg S vs note vs')(hI:Inv S vs):Inv S vs':=by
 cases h with
 |assign _ hv _ _ hF=>exact Inv.nN hI hv hF
 |Aw _ hv _=>exact hI.Aw hv _ _
 |rK hs h h1 h2 h3=>exact hI.rK h h1 h2 h3 hs.s2
 |clone _ ht hv h=>exact hI.clone hv h ht.s2
 |delete _ _=>exact hI.del _
theorem Ej:∀{xs:List Ex},(∀x∈xs,x.ok)->(xs.flatMap exN).length<=xs.length*9
 |[],_=>IN _
 |x::xs,h=>by have h1:=IP (h x (Tk ..));have h2:=Ej (xs:=xs) λy hy=>h y (SQ _ hy);rw[TO,IT,SA];omega
theorem Chg.len(h:Chg S vs note vs')(hI:Inv S vs):1<=note.length/\note.length<=256:=by
 have hp:∀k s,1<=(jD k s).length:=λk s=>List.length_pos_iff.2 (kI k s)
 cases h with
 |@assign s v xs h hv hl hV hF=>have h1:=kL (k:=1) (by omega) h.s2;have h2:=Ej hV.1;have h3:=jk (k:=xs.length) (by omega);have:=hp 1 s;rw[IT,IT];omega
 |@Aw s v a k h hv hl=>have h0:=(hI.found hv).n2;have h1:=kL (k:=2) (by omega) h.s2;have h2:=jk (k:=a) (by omega);have h3:=jk (k:=k) (by omega);have:=hp 2 s;rw[IT,IT];omega
 |@rK s k r h _ _ _ _=>have h1:=kL (k:=3) (by omega) h.s2;have h2:=jk (k:=k) (by omega);have h3:=jk (k:=r) (by omega);have:=hp 3 s;rw[IT,IT];omega
 |@clone s t v h h' _ _=>have h1:=kL (k:=4) (by omega) h.s2;have h0:=h'.s2;have h2:=jk (k:=t.size) (by omega);have h3:=jb t;have:=hp 4 s;rw[IT,IT];omega
 |@delete s h _=>have h1:=kL (k:=5) (by omega) h.s2;have:=hp 5 s;omega
structure StepR(S:Nat)(vs:List Vo)(c:Cmd)(vs':List Vo)(L:List Wt):Prop where
 kZ:∀t,(c.kind=7->t≠c.vol)->qO t vs vs'
 wr:c.kind=2->∃v xs W,gK vs c.vol=some v/\PlanOk S vs v c.at_.toNat c.data.length xs W/\vs'=iG ⟨c.vol,v.n,v.r,nN xs v.P⟩ vs/\L=W.zip c.data/\pG vs v c.at_.toNat c.data.length<=(ix vs v:Int)+max 0 (room S vs)
 crt:c.kind=5->vs'=iG ⟨c.vol,c.len.toNat,c.at_.toNat,[]⟩ vs
 no:c.kind≠2->L=[]
def Jj(S:Nat)(vs:List Vo)(c:Cmd):Prop:=(c.kind=2/\acR S vs c.vol c.at_.toNat c.data.length)\/(c.kind=5/\kW vs c.vol=0/\(c.at_:Int)<=room S vs)
def Rb(S:Nat)(vs:List Vo)(c:Cmd)(res:AT)(M:FM)(N:Nat):Prop:=
 (∃e:Int,e≠0/\res=.tuple #[.slice none 0 0,.slice none 0 0,.int .i64 e]/\¬Jj S vs c)\/
 ∃vs' L note wv nv,StepR S vs c vs' L/\Chg S vs note vs'/\res=.tuple #[wv,nv,.int .i64 0]/\SlZ 9 M 0 N wv L.length (wrC L)/\OkD (L.map Vv)/\Bts M N nv note
theorem Mc{nv:AT}(h:Bts M N nv note)(h1:1<=note.length)(hf:gy (.tuple #[wv,nv,.int .i64 0])=true):False:=by
 rcases h with⟨rfl,_⟩|⟨b,k,rest,o,w,rfl,_⟩
 ·cases h1
 ·revert hf;show(([wv,Value.slice (some ⟨b,0,none⟩) _ k,Value.int IntKind.i64 0]:List AT).all Am.flat=true)->False;simp[Am.flat]
theorem Rb.flat{c:Cmd}(hI:Inv S vs)(hf:gy res=true)(h:Rb S vs c res M N):Rb S vs c res M' N':=by
 rcases h with h|⟨vs',L,note,wv,nv,h1,h2,rfl,h3,h4,h5⟩
 ·exact .inl h
 ·exact(Mc h5 (h2.len hI).1 hf).elim
theorem MV(hU:YUp Y)(hC:me Y)(hN:qS Y)(hY:jf Y)(hCo:Ag Y)(hM:lL Y 164)(h:j6 S m n b vs)(od:Am.one dm=true)(hI:Inv S vs)(hr:0<=room S vs)(hS:S<=65536)(h0:0<S){c:Cmd}(hd:jn m n dv c.data)(hv:jm c)(hk:c.kind≠1/\c.kind≠4):
  Kp (fL PG EL Y 54 [.agg #[mP b,dm],jx c dv] m n) m n λres m' n'=>Rb S vs c res m' n':=by
 refine gN (R:=λres m' n'=>Rb S vs c res m' n') e54 rfl (λ_ _ _ hf h=>h.flat hI hf) λQ hQ=>?_;have o3:=hd.one;have ld:=hd.len;simp only[ae6,mP,jx];rcases hv.2 with⟨q,_⟩|⟨hkd,k1,k2,k3,k4,k5⟩|⟨hkd,k1,k2,k3,k4⟩|⟨q,_⟩|⟨hkd,k1,k2,k3,k4,k5,k6,k7,k8⟩|⟨hkd,k1,k2,k3,k4,k5,k6,k7⟩|⟨hkd,k1,k2,k3,k4,k5,k6⟩
 ·exact absurd q hk.1
 ·unfold iF at k3;obtain⟨a,ha⟩:∃a:Nat,c.at_=(a:Int):=⟨c.at_.toNat,by omega⟩;have ha2:c.at_.toNat=a:=by omega
  have fr:∀x y k,k<n->(If (If m n x) (n+1) y:FM) k=m k:=λx y k hk=>by rw[en _ _ _ _ (by omega),en _ _ _ _ (by omega)]
  simp(disch:=omega)only[W_,eu,to,od,o3,dW od,dW o3,hkd,ha];have hps:=J2 hU hC hN hY hCo (h.frame (N':=n+2) (by omega) (fr (some (.cells [.pointer (some ⟨b,0,none⟩),dm] 0 false true)) (some (.cells [.int .i64 c.tag,.int .i64 2,.int .i64 c.ord,.bool c.force,.string c.vol,.string c.oth,.int .i64 (a:Int),.int .i64 c.len,dv] 0 false true)))) hI hr hS h0 k1.ok (a:=a) (hd.frame (n':=n+2) (by omega) (fr _ _)) (by omega) (by omega) (by omega);unfold mP at hps;refine fI hps λv1 M1 n1 r1 w1 ⟨k1',f1,g1,h1⟩=>?_;rcases h1 with⟨e,he,hv1,hg⟩|⟨v,xs,W,wv,nv,hv1,hv2,hv3,hv4,hv5,hv6,hv7⟩
  ·subst hv1;simp(disch:=omega)only[W_,eu,to]
   exact hQ _ _ _ _ _ (by omega) (λk hk=>(f1 k (by omega)).trans (fr _ _ k hk)) (by simp(disch:=omega)only[fB,eS,eR,and_self,g1]) (.inl ⟨e,he,rfl,λhx=>by
    rcases hx with⟨_,hx⟩|⟨hx,_⟩
    ·rw[ha2]at hx;exact hg hx
    ·omega⟩)
  ·subst hv5;have q1:=SlZ.one hv6;have q2:=hv7.one;simp(disch:=omega)only[W_,eu,to,q1,q2];refine hQ _ _ _ _ _ (by omega) (λk hk=>(f1 k (by omega)).trans (fr _ _ k hk)) (by simp(disch:=omega)only[fB,eS,eR,and_self,g1]) (.inr ⟨_,W.zip c.data,_,wv,nv,⟨?_,λ_=>⟨v,xs,W,hv1,by rw[ha2];exact hv4,rfl,rfl,by rw[ha2];exact hv3⟩,λh=>by omega,λh=>absurd hkd h⟩,.assign k1.ok hv1 (by have:=hv4.few;omega) hv4.vl hv4.fre,rfl,hv6,λd hd'=>?_,hv7⟩)
   ·exact λt _=>qO.set (w:=⟨c.vol,v.n,v.r,nN xs v.P⟩) hv1 rfl rfl rfl t
   ·obtain⟨p,hp,rfl⟩:=Us.1 hd';obtain⟨i,hi,he⟩:=List.getElem_of_mem (List.of_mem_zip hp).2;obtain⟨_,_,_,_,_,_,_,_,h8,_⟩:=hd.at hi;rw[<-he];exact h8
 ·unfold iF at k4;obtain⟨a,ha⟩:∃a:Nat,c.at_=(a:Int):=⟨c.at_.toNat,by omega⟩;obtain⟨k,hl⟩:∃k:Nat,c.len=(k:Int):=⟨c.len.toNat,by omega⟩;have fr:∀x y k,k<n->(If (If m n x) (n+1) y:FM) k=m k:=λx y k hk=>by rw[en _ _ _ _ (by omega),en _ _ _ _ (by omega)]
  simp(disch:=omega)only[W_,eu,to,od,o3,dW od,dW o3,hkd,ha,hl];have hps:=FO hY hM (h.frame (N':=n+2) (by omega) (fr (some (.cells [.pointer (some ⟨b,0,none⟩),dm] 0 false true)) (some (.cells [.int .i64 c.tag,.int .i64 3,.int .i64 c.ord,.bool c.force,.string c.vol,.string c.oth,.int .i64 (a:Int),.int .i64 (k:Int),dv] 0 false true)))) hI hS h0 k1.ok (a:=a) (k:=k) (by omega);unfold mP at hps;refine fI hps λv1 M1 n1 r1 w1 ⟨k1',f1,g1,h1⟩=>?_;rcases h1 with⟨e,he,hv1⟩|⟨⟨v,hv1,hv2⟩,nv,hv5,hv7⟩
  ·subst hv1;simp(disch:=omega)only[W_,eu,to];exact hQ _ _ _ _ _ (by omega) (λk hk=>(f1 k (by omega)).trans (fr _ _ k hk)) (by simp(disch:=omega)only[fB,eS,eR,and_self,g1]) (.inl ⟨e,he,rfl,λhx=>by rcases hx with⟨hx,_⟩|⟨hx,_⟩<;>omega⟩)
  ·subst hv5;have q2:=hv7.one;simp(disch:=omega)only[W_,eu,to,q2];exact hQ _ _ _ _ _ (by omega) (λk hk=>(f1 k (by omega)).trans (fr _ _ k hk)) (by simp(disch:=omega)only[fB,eS,eR,and_self,g1]) (.inr ⟨_,[],_,.slice none 0 0,nv,⟨λt _=>qO.set (w:=⟨c.vol,v.n,v.r,jK a v.P++iC (a+k) v.P⟩) hv1 rfl rfl rfl t,λh=>by omega,λh=>by omega,λ_=>rfl⟩,.Aw k1.ok hv1 hv2,rfl,.inl ⟨rfl,rfl,rfl⟩,λd hd=>(by cases hd),hv7⟩)
 ·exact absurd q hk.2
 ·obtain⟨r,ha⟩:∃a:Nat,c.at_=(a:Int):=⟨c.at_.toNat,by omega⟩;obtain⟨k,hl⟩:∃k:Nat,c.len=(k:Int):=⟨c.len.toNat,by omega⟩;have ha2:c.at_.toNat=r:=by omega
  have hl2:c.len.toNat=k:=by omega
  have fr:∀x y k,k<n->(If (If m n x) (n+1) y:FM) k=m k:=λx y k hk=>by rw[en _ _ _ _ (by omega),en _ _ _ _ (by omega)]
  simp(disch:=omega)only[W_,eu,to,od,o3,dW od,dW o3,hkd,ha,hl];have hps:=uJ hU hC hN hY hM (h.frame (N':=n+2) (by omega) (fr (some (.cells [.pointer (some ⟨b,0,none⟩),dm] 0 false true)) (some (.cells [.int .i64 c.tag,.int .i64 5,.int .i64 c.ord,.bool c.force,.string c.vol,.string c.oth,.int .i64 (r:Int),.int .i64 (k:Int),dv] 0 false true)))) hI hS k1.ok (k:=k) (r:=r) (by omega) (by omega) (by omega);unfold mP at hps;refine fI hps λv1 M1 n1 r1 w1 ⟨k1',f1,g1,h1,hx⟩=>?_;rcases h1 with⟨e,he,hv1⟩|⟨⟨hv1,hv2⟩,nv,hv5,hv7⟩
  ·subst hv1;simp(disch:=omega)only[W_,eu,to]
   exact hQ _ _ _ _ _ (by omega) (λk hk=>(f1 k (by omega)).trans (fr _ _ k hk)) (by simp(disch:=omega)only[fB,eS,eR,and_self,g1]) (.inl ⟨e,he,rfl,λhy=>by
    rcases hy with⟨hy,_⟩|⟨_,hy,hz⟩
    ·omega
    ·obtain⟨nv,hnv⟩:=hx ⟨hy,by rw[enE,if_neg (by omega)]⟩;injection hnv with hnv
     injection hnv with hnv
     injection hnv with _ hnv
     injection hnv with hnv
     injection hnv with _ hnv
     exact he hnv⟩)
  ·subst hv5;have q2:=hv7.one;simp(disch:=omega)only[W_,eu,to,q2];refine hQ _ _ _ _ _ (by omega) (λk hk=>(f1 k (by omega)).trans (fr _ _ k hk)) (by simp(disch:=omega)only[fB,eS,eR,and_self,g1]) (.inr ⟨_,[],_,.slice none 0 0,nv,⟨λt _=>qO.new ?_ t,λh=>by omega,λ_=>by rw[ha2,hl2],λ_=>rfl⟩,.rK k1.ok hv1 (by omega) (by omega) (by omega),rfl,.inl ⟨rfl,rfl,rfl⟩,λd hd=>(by cases hd),hv7⟩);exact(pz hv1).1
 ·have fr:∀x y k,k<n->(If (If m n x) (n+1) y:FM) k=m k:=λx y k hk=>by rw[en _ _ _ _ (by omega),en _ _ _ _ (by omega)]
  simp(disch:=omega)only[W_,eu,to,od,o3,dW od,dW o3,hkd];have hps:=EU hU hC hN hY hM (h.frame (N':=n+2) (by omega) (fr (some (.cells [.pointer (some ⟨b,0,none⟩),dm] 0 false true)) (some (.cells [.int .i64 c.tag,.int .i64 6,.int .i64 c.ord,.bool c.force,.string c.vol,.string c.oth,.int .i64 c.at_,.int .i64 c.len,dv] 0 false true)))) hI hS h0 k1.ok k2.ok;unfold mP at hps;refine fI hps λv1 M1 n1 r1 w1 ⟨k1',f1,g1,h1⟩=>?_;rcases h1 with⟨e,he,hv1⟩|⟨⟨v,hv1,hv2⟩,nv,hv5,hv7⟩
  ·subst hv1;simp(disch:=omega)only[W_,eu,to];exact hQ _ _ _ _ _ (by omega) (λk hk=>(f1 k (by omega)).trans (fr _ _ k hk)) (by simp(disch:=omega)only[fB,eS,eR,and_self,g1]) (.inl ⟨e,he,rfl,λhx=>by rcases hx with⟨hx,_⟩|⟨hx,_⟩<;>omega⟩)
  ·subst hv5;have q2:=hv7.one;simp(disch:=omega)only[W_,eu,to,q2];exact hQ _ _ _ _ _ (by omega) (λk hk=>(f1 k (by omega)).trans (fr _ _ k hk)) (by simp(disch:=omega)only[fB,eS,eR,and_self,g1]) (.inr ⟨_,[],_,.slice none 0 0,nv,⟨λt _=>qO.new (w:=⟨c.oth,v.n,0,v.P⟩) (pz hv2).1 t,λh=>by omega,λh=>by omega,λ_=>rfl⟩,.clone k1.ok k2.ok hv1 hv2,rfl,.inl ⟨rfl,rfl,rfl⟩,λd hd=>(by cases hd),hv7⟩)
 ·have fr:∀x y k,k<n->(If (If m n x) (n+1) y:FM) k=m k:=λx y k hk=>by rw[en _ _ _ _ (by omega),en _ _ _ _ (by omega)]
  simp(disch:=omega)only[W_,eu,to,od,o3,dW od,dW o3,hkd];have hps:=Cv hU hC hY hM (h.frame (N':=n+2) (by omega) (fr (some (.cells [.pointer (some ⟨b,0,none⟩),dm] 0 false true)) (some (.cells [.int .i64 c.tag,.int .i64 7,.int .i64 c.ord,.bool c.force,.string c.vol,.string c.oth,.int .i64 c.at_,.int .i64 c.len,dv] 0 false true)))) hI hS h0 k1.ok;unfold mP at hps;refine fI hps λv1 M1 n1 r1 w1 ⟨k1',f1,g1,h1⟩=>?_;rcases h1 with⟨e,he,hv1⟩|⟨hv1,nv,hv5,hv7⟩
  ·subst hv1;simp(disch:=omega)only[W_,eu,to];exact hQ _ _ _ _ _ (by omega) (λk hk=>(f1 k (by omega)).trans (fr _ _ k hk)) (by simp(disch:=omega)only[fB,eS,eR,and_self,g1]) (.inl ⟨e,he,rfl,λhx=>by rcases hx with⟨hx,_⟩|⟨hx,_⟩<;>omega⟩)
  ·subst hv5;have q2:=hv7.one;simp(disch:=omega)only[W_,eu,to,q2];exact hQ _ _ _ _ _ (by omega) (λk hk=>(f1 k (by omega)).trans (fr _ _ k hk)) (by simp(disch:=omega)only[fB,eS,eR,and_self,g1]) (.inr ⟨_,[],_,.slice none 0 0,nv,⟨λt ht=>qO.del (ht hkd),λh=>by omega,λh=>by omega,λ_=>rfl⟩,.delete k1.ok hv1,rfl,.inl ⟨rfl,rfl,rfl⟩,λd hd=>(by cases hd),hv7⟩)
def ApY(Y:Nat->List AT->FM->Nat->OR FM):Prop:=∀{S:Nat} {m:FM} {n b:Nat} {vs vs':List Vo} {note:List Nat} {nv:AT},j6 S m n b vs->Inv S vs->S<=65536->0<S->Bts m n nv note->Chg S vs note vs'->
 Rt (Y 13 [mP b,nv] m n) λv m' n' w=>(room S vs'<0/\v=.int .i64 11/\m'=m/\n'=n/\w=0)\/(0<=room S vs'/\v=.int .i64 0/\n<=n'/\j6 S m' n' b vs'/\U5 w b=true/\(∀c,c<n->c≠b->m' c=m c)/\mI w n b)
noncomputable def GI:KK PG Int 3:=KU PG 3 .i64 rfl
def qP(v:AT):Prop:=∃d:List Int,d.length=8/\v=.agg (u8s d).toArray
abbrev DE:=List (Int×AT)
def DmR(M:FM)(N:Nat)(v:AT)(es:DE):Prop:=∃b,v=.map (some b)/\b<N/\M b=some (.map (GI.C es))/\∀p∈es,qP p.2
theorem DmR.frame{M':FM}{N N':Nat}{es:DE}(h:DmR M N v es)(hN:N<=N')(hf:∀b,b<N->M' b=M b):DmR M' N' v es:=let⟨b,h1,h2,h3,h4⟩:=h;⟨b,h1,by omega,(hf b h2).trans h3,h4⟩
theorem DmR.one{es:DE}(h:DmR M N v es):Am.one v=true:=by obtain⟨b,rfl,_⟩:=h;rfl
theorem DmR.gU{es:DE}(h:DmR M N v es):∀k,N<=k->jz k v=true:=λk hk=>by obtain⟨b,rfl,hb,_⟩:=h;exact gI (show b<k by omega)
theorem DmR.gO{es:DE}(h:DmR M N v es):∀k,N<=k->iW k v=true:=λk hk=>by obtain⟨b,rfl,hb,_⟩:=h;exact gI (show b<k by omega)
theorem DmR.other{M':FM}{k:Nat}{es:DE}(h:DmR M N v es)(hN:N<=N')(hk:M k=some (.cells c s o w))(hM:∀b,b<N->b≠k->M' b=M b):DmR M' N' v es:=by obtain⟨b,h1,h2,h3,h4⟩:=h;refine⟨b,h1,by omega,(hM b h2 ?_).trans h3,h4⟩;rintro rfl;rw[hk]at h3;cases h3
theorem DD{t:Int}(hv:qP v):∀{es:DE},(∀p∈es,qP p.2)->∀p∈lW t v es,qP p.2
 |[],_,p,hp=>by obtain rfl:=List.mem_singleton.1 hp;exact hv
 |q::es,h,p,hp=>by
  unfold lW at hp;split at hp
  ·rcases TG.1 hp with rfl|hp
   ·exact hv
   ·exact h p (SQ _ hp)
  ·rcases TG.1 hp with rfl|hp
   ·exact h _ (Tk ..)
   ·exact DD hv (λp hp=>h p (SQ _ hp)) p hp
def dsF(es:DE)(L:List Wt):DE:=L.foldl (λes p=>lW (p.1:Int) (.agg (u8s p.2).toArray) es) es
theorem KT(h:j6 S m n b vs):Kp (fL PG EL Y 55 [mP b] m n) m n λr m' n'=>∃b',r=mP b'/\n<=b'/\j6 S m' n' b' vs:=by refine gG (R:=λr m' n'=>∃b',r=mP b'/\n<=b'/\j6 S m' n' b' vs) e55 rfl λQ hQ=>?_;obtain⟨hb,cv,mv,hm,hF⟩:=h;have o1:=hF.c.one;have o2:=hF.m.one;simp only[ae5,mP];simp(disch:=omega)only[W_,eu,to,U5,AS,By,BY,lg,hm,o1,o2,dW o1,dW o2];have fr:∀x c,c<n->(If m n x:FM) c=m c:=λx c hc=>gu;exact hQ _ _ _ _ _ (by omega) (fr _) (by simp(disch:=omega)only[fB,eS,eR,and_self]) rfl ⟨n,rfl,IN _,by omega,cv,mv,eB _ _ _,hF.frame (by omega) (fr _)⟩
theorem LP:∀{L:List Wt} {j:Nat} (h:j<L.length),OkD (L.map Vv)->lS (nI (wrC L) (j*9)) 9=some (Value.int .i64 (L[j].1:Int)::u8s L[j].2)
 |p::L,0,h,hd=>by have h1:=hd p.2 (by simp);rw[lR,Nat.zero_mul,UZ,wrC,TO,jT,if_pos (by rw[IT,SA,u8s,SC,h1];omega),List.take_left' (by rw[SA,u8s,SC,h1])];rfl
 |p::L,j+1,h,hd=>by have h1:=hd p.2 (by simp);have h2:=LP (L:=L) (j:=j) (by simpa using h) λd h=>hd d (by rw[List.map_cons];exact SQ _ h);rw[lR]at h2 ⊢;rw[show(j+1)*9=9+j*9 by omega,<-List.drop_drop,wrC,TO,List.drop_left' (by rw[SA,u8s,SC,h1])];exact h2
theorem MD{s:ByteArray}{r:Nat}(h:s∉vs.map Vo.nm):room S (iG ⟨s,k,r,[]⟩ vs)=room S vs-r:=by
 have h1:slv (iG ⟨s,k,r,[]⟩ vs)=slv vs:=Ia (v:=⟨s,k,r,[]⟩) h rfl;have h2:∀P,ij (iG ⟨s,k,r,[]⟩ vs) P=ij vs P:=λP=>by unfold ij;rw[h1]
 have h3:jg (iG ⟨s,k,r,[]⟩ vs)=jg vs+r:=by
  have e:ix (iG ⟨s,k,r,[]⟩ vs)=ix vs:=funext λv=>by unfold ix;rw[h2]
  unfold jg;rw[e,nQ (v:=⟨s,k,r,[]⟩) h,List.map_append,List.sum_append];simp[ix,ij]
 have h4:ko S (iG ⟨s,k,r,[]⟩ vs)=ko S vs:=by unfold ko;rw[h1]
 unfold room;rw[h3,h4];omega
theorem JF{c:Cmd}(hI:Inv S vs)(hr:0<=room S vs)(h:StepR S vs c vs' L)(hs:Jj S vs c):0<=room S vs':=by
 rcases hs with⟨hk,_⟩|⟨hk,h1,h2⟩
 ·obtain⟨v,xs,W,h1,h2,h3,_,h4⟩:=h.wr hk;rw[h3];exact J3 hI h1 h2 hr (by omega)
 ·rw[h.crt hk,MD (pz h1).1];omega
def AftR(S:Nat)(vs:List Vo)(c:Cmd)(pb:Nat)(dm:AT)(es:DE)(res:AT)(M:FM)(N:Nat):Prop:=
 (∃e:Int,e≠0/\res=.tuple #[.agg #[mP pb,dm],.int .i64 e]/\¬Jj S vs c)\/
 ∃pb' dm' vs' L,res=.tuple #[.agg #[mP pb',dm'],.int .i64 0]/\StepR S vs c vs' L/\Inv S vs'/\0<=room S vs'/\j6 S M N pb' vs'/\DmR M N dm' (dsF es L)
theorem Pe{ob pb db:Nat}(hW:SlZ 9 m 0 n wv L.length (wrC L))(hd:OkD (L.map Vv))(hll:L.length<=100)(hob:ob<n)(hmo:m ob=some (.cells [.pointer (some ⟨pb,0,none⟩),.map (some db)] 0 false true))(hdb:db<n){es0:List (AT×AT)}(hdm:m db=some (.map es0))(e3 e4 e5 e7 e8 e9:AT)(tl:List AT):
  ∀(d j:Nat) (es:DE) (x1:AT) (M:FM) (N:Nat),j+d=L.length->n<=N->(∀p∈es,qP p.2)->M db=some (.map (GI.C es))->(∀c,c<n->c≠db->M c=m c)->
  Gv (gD PG EL Y vX ([.int .i64 (j:Int),x1,.int .i64 (L.length:Int),e3,e4,e5,.pointer (some ⟨ob,0,none⟩),e7,e8,e9,wv]++tl) M N) λX e M' N' w=>(∃z1 z2,X=.exit 0/\e=[z1,z2,e3,e4,e5,.pointer (some ⟨ob,0,none⟩),e7,e8,e9,wv]++tl)/\N<=N'/\(∀p∈dsF es (L.drop j),qP p.2)/\M' db=some (.map (GI.C (dsF es (L.drop j))))/\(∀c,c<n->c≠db->M' c=m c)/\mI w n db:=by
 intro d
 induction d with
 |zero=>
  intro j es x1 M N hj hN hes hmd hf;refine gA (L:=vX) (b:=qK) rfl ?_;simp only[qK,SK,SJ];obtain rfl:j=L.length:=by omega
  simp(disch:=omega)only[W_,eu,to,U5,AS,By,BY];rw[List.drop_length];exact⟨⟨x1,_,rfl⟩,IN _,hes,hmd,hf,λj _ _=>TD j⟩
 |succ d ih=>
  intro j es x1 M N hj hN hes hmd hf;rcases hW with⟨w1,_⟩|⟨w1,w2,wb,rfl,w3,w4,w5⟩
  ·omega
  have hne:wb≠db:=by rintro rfl;rw[hdm]at w5;cases w5
  have hneo:ob≠db:=by rintro rfl;rw[hdm]at hmo;cases hmo
  have h6:=(hf ob hob hneo).trans hmo;have h5:=(hf wb w4 hne).trans w5;have hat:=LP (L:=L) (j:=j) (by omega) hd;have h8:L[j].2.length=8:=hd _ (Us.2 ⟨L[j],Tb _,rfl⟩);refine gA (L:=vX) (b:=qK) rfl ?_;simp only[qK,SK,SJ];have fr:∀c,c<N->(If M N (some (.cells (.int .i64 (L[j].1:Int)::u8s L[j].2) 0 false true)):FM) c=M c:=λc hc=>gu;have hup:=Dq (n:=N+1) GI (by omega) ((fr db (by omega)).trans hmd) (L[j].1:Int) (.agg (u8s L[j].2).toArray);have hup2:lu PG (.upd 3) [.map (some db),.int .i64 (L[j].1:Int),.agg (u8s L[j].2).toArray] (If M N (some (.cells (.int .i64 (L[j].1:Int)::u8s L[j].2) 0 false true))) (N+1)=_:=hup;simp(disch:=omega)only[W_,eu,to,U5,AS,By,BY,h5,h6,hat,lO h8,li,oK h8,oL h8,ua,mE,hup2];have hdr:L.drop j=L[j]::L.drop (j+1):=Tx (by omega);refine gR (ih (j+1) (lW (L[j].1:Int) (.agg (u8s L[j].2).toArray) es) x1 _ (N+1) (by omega) (by omega) (DD ⟨_,h8,rfl⟩ hes) (eB _ _ _) (λc hc hne=>(en _ _ _ _ hne).trans ((fr c (by omega)).trans (hf c hc hne)))) λX e m' n' w ⟨p1,p2,p3,p4,p5,p6⟩=>?_;rw[hdr];refine⟨p1,by omega,p3,p4,p5,λi hi hne=>?_⟩;simp only[gv,gx,p6 i hi hne];simp;omega
theorem mZ{w:Nat}(h:∀j,j<n->w.testBit j=false):SL w (bit n)=0:=by
 rw[qD];refine Nat.eq_of_testBit_eq λi=>?_;show(w % 2 ^ n).testBit i=_;rw[Nat.testBit_mod_two_pow,TD];by_cases hi:i<n
 ·rw[h i hi,Bool.and_false]
 ·rw[decide_eq_false hi,Bool.false_and]
theorem mI.mod{w rb:Nat}(h:mI w N rb)(h1:n<=N)(h2:n<=rb):SL w (bit n)=0:=mZ λj hj=>h j (by omega) (by omega)
theorem j6.other{M':FM}{k:Nat}(h:j6 S M N b vs)(hk:M k=some (.cells c s o w))(hs:s≠1)(hc:c.length≠8)(hne:k≠b)(hM:∀b,b≠k->M' b=M b):j6 S M' N b vs:=by obtain⟨h1,cv,mv,h2,h3⟩:=h;exact⟨h1,cv,mv,(hM b (Ne.symm hne)).trans h2,h3.other hk hs hc hM⟩
theorem abP(x1:AT)(tl:List AT)(M:FM)(N:Nat):Gv (gD PG EL Y vX (.int .i64 0::x1::.int .i64 ((0:Nat):Int)::tl) M N) λX e M' N' w=>X=.exit 0/\e=x1::.int .i64 ((0:Nat):Int)::tl/\M'=M/\N'=N/\w=0:=by refine gA (L:=vX) (b:=qK) rfl ?_;simp only[qK];simp(disch:=omega)only[W_,eu,to,U5,AS,By,BY]
theorem HX(hU:YUp Y)(hC:me Y)(hN:qS Y)(hY:jf Y)(hCo:Ag Y)(hM:lL Y 164)(hM2:lL Y 56)(hA:ApY Y){es:DE}(h:j6 S m n b vs)(hD:DmR m n dm es)(hI:Inv S vs)(hr:0<=room S vs)(hS:S<=65536)(h0:0<S){c:Cmd}(hd:jn m n dv c.data)(hv:jm c)(hk:c.kind≠1/\c.kind≠4):
  Kp (fL PG EL Y 20 [.agg #[mP b,dm],jx c dv] m n) m n λres m' n'=>AftR S vs c b dm es res m' n':=by
 refine gG (R:=λres m' n'=>AftR S vs c b dm es res m' n') e20 rfl λQ hQ=>?_;have od:=hD.one;have o3:=hd.one;simp only[afr,mP,jx];simp(disch:=omega)only[W_,eu,to,U5,AS,By,BY,od,o3,dW od,dW o3];obtain⟨fr,t0,t1,t2⟩:=jP (m:=m) (n:=n) (a:=.cells [.pointer (some ⟨b,0,none⟩),dm] 0 false true) (b:=.cells [.int .i64 c.tag,.int .i64 c.kind,.int .i64 c.ord,.bool c.force,.string c.vol,.string c.oth,.int .i64 c.at_,.int .i64 c.len,dv] 0 false true) (c:=.cells [.pointer none,.map none] 0 false true);revert fr t0 t1 t2;generalize (If (If (If m n (some (.cells [.pointer (some ⟨b,0,none⟩),dm] 0 false true))) (n+1) (some (.cells [.int .i64 c.tag,.int .i64 c.kind,.int .i64 c.ord,.bool c.force,.string c.vol,.string c.oth,.int .i64 c.at_,.int .i64 c.len,dv] 0 false true))) (n+2) (some (.cells [.pointer none,.map none] 0 false true)):FM)=M0;intro fr t0 t1 t2;have hb:=h.1;have hH:=h.frame (N':=n+3) (by omega) fr;have hD0:=hD.frame (N':=n+3) (by omega) fr;have hps:=MV hU hC hN hY hCo hM hH od hI hr hS h0 (hd.frame (n':=n+3) (by omega) fr) hv hk;unfold mP jx at hps;refine fI hps λv1 M1 n1 r1 w1 ⟨k1,f1,g1,h1⟩=>?_;have u0:=(f1 n (by omega)).trans t0;have u1:=(f1 (n+1) (by omega)).trans t1;have u2:=(f1 (n+2) (by omega)).trans t2;rcases h1 with⟨e,he,hv1,hx⟩|⟨vs',L,note,wv,nv,hSt,hCh,hv1,hW,hOk,hB⟩
 ·subst hv1;simp(disch:=omega)only[W_,eu,to,U5,AS,By,BY,he,u0,u2,od,dW od];exact hQ _ _ _ _ _ (by omega) (λk hk=>gJ (by omega) ((f1 k (by omega)).trans (fr k hk))) (by simp(disch:=omega)only[fB,eS,eR,and_self,g1]) rfl (.inl ⟨e,he,rfl,hx⟩)
 ·subst hv1;have q1:=SlZ.one hW;have q2:=hB.one;have ql:=SlZ.len hW;simp(disch:=omega)only[W_,eu,to,U5,AS,By,BY,q1,q2,u0,u1,od,dW od];have hcp:=KT (Y:=Y) (hH.frame k1 f1);unfold mP at hcp;refine mw hU hcp λv2 M2 n2 r2 w2 ⟨k2,f2,g2,pb,hv2,hge,P2⟩ l2=>?_;subst hv2;have hpb:=P2.1;have La:=gE (g2 n1 (IN _)) (show n<n1 by omega);have Lb:=l2 n2 (IN _);have y0:=(f2 n (by omega)).trans u0;have qd:=(hD0.frame k1 f1).gU;have qda:=(hD0.frame k1 f1).gO;have bpb:∀k,n2<=k->jz k (.pointer (some ⟨pb,0,none⟩))=true:=λk hk=>gI (show pb<k by omega);simp(disch:=omega)only[W_,eu,to,U5,AS,By,BY,La,Lb,y0,od,qd,qda,dW od,bpb];have f3:∀x k,k<n2->(If M2 n2 x:FM) k=M2 k:=λx k hk=>gu;have t3:=eB M2 n2 (some (.cells [.pointer (some ⟨pb,0,none⟩),dm] 0 false true));have P3:=P2.frame (N':=n2+1) (by omega) (f3 (some (.cells [.pointer (some ⟨pb,0,none⟩),dm] 0 false true)));have ff3:∀k,k<n1->(If M2 n2 (some (.cells [.pointer (some ⟨pb,0,none⟩),dm] 0 false true)):FM) k=M1 k:=λk hk=>(f3 _ k (by omega)).trans (f2 k hk);revert t3 P3 ff3;generalize (If M2 n2 (some (.cells [.pointer (some ⟨pb,0,none⟩),dm] 0 false true)):FM)=M3;intro t3 P3 ff3;have hap:=hA P3 hI hS h0 (hB.frame (N':=n2+1) (by omega) ff3) hCh;rw[<-kU (P:=PG) (Y:=Y) e13]at hap;unfold mP at hap;refine fI hap λv4 M4 n4 r4 w4 h4=>?_;rcases h4 with⟨hro,hv4,rfl,rfl,rfl⟩|⟨hro,hv4,k4,P4,tw,f4,g4⟩
  ·subst hv4;have z0:=(ff3 n (by omega)).trans u0;have z2:=(ff3 (n+2) (by omega)).trans u2;simp(disch:=omega)only[W_,eu,to,U5,AS,By,BY,z0,z2,od,dW od];refine hQ _ _ _ _ _ (by omega) (λk hk=>?_) (by simp(disch:=omega)only[fB,eS,eR,and_self,g1,g2]) rfl (.inl ⟨11,by decide,rfl,λhsu=>?_⟩)
   ·rw[en _ _ _ _ (by omega),ff3 k (by omega),f1 k (by omega),fr k hk]
   ·have:=JF hI hr hSt hsu;omega
  ·subst hv4;obtain⟨hpb3,pcv,pmv,hmp,_⟩:=P3;have hD4:=((hD0.frame k1 f1).frame (N':=n2+1) (by omega) ff3).other k4 hmp f4;have y4:=(f4 n2 (by omega) (by omega)).trans t3;have b0:=(f4 n (by omega) (by omega)).trans ((ff3 n (by omega)).trans u0);have b2:=(f4 (n+2) (by omega) (by omega)).trans ((ff3 (n+2) (by omega)).trans u2)
   have hW4:SlZ 9 M4 0 n4 wv L.length (wrC L):=by
    rcases hW with hW|⟨w1',w2',wb,rfl,w3,w4',w5⟩
    ·exact .inl hW
    ·refine .inr ⟨w1',w2',wb,rfl,w3,by omega,?_⟩;have w6:=(ff3 wb (by omega)).trans w5;refine(f4 wb (by omega) λe=>?_).trans w6;rw[e]at w6;rw[hmp]at w6;injection w6 with w6
     injection w6 with _ w6
     cases w6
   obtain⟨db,hdm,hdb,hmd,hes⟩:=hD4;subst hdm
   have hll:L.length<=100:=by
    by_cases hk2:c.kind=2
    ·obtain⟨v,xs,W,_,hP,_,hLe,_⟩:=hSt.wr hk2;rw[hLe,List.length_zip];rcases hv.2 with⟨q,_⟩|⟨_,q⟩|⟨q,_⟩|⟨q,_⟩|⟨q,_⟩|⟨q,_⟩|⟨q,_⟩<;>first|omega|skip
     have:=q.2.2.2;omega
    ·rw[hSt.no hk2];simp
   have hI':=hCh.inv hI;rcases Nat.eq_zero_or_pos L.length with hl0|hl0
   ·simp(disch:=omega)only[W_,eu,to,U5,AS,By,BY,q1,ql];rw[hl0];refine ic (abP _ _ M4 n4) λX e M5 n5 r5 w5 ⟨hX,he,hM,hn,hw⟩=>?_;subst hX he;subst hM hn hw;have bpb4:Am.one (.pointer (some ⟨pb,0,none⟩))=true:=rfl;simp(disch:=omega)only[W_,eu,to,U5,AS,By,BY,y4,b2,lX,mc];have hL:L=[]:=List.length_eq_zero_iff.1 hl0;have fz:∀k,k<n->(If M5 (n+2) (some (.cells [.pointer (some ⟨pb,0,none⟩),.map (some db)] 0 false true)):FM) k=m k:=λk hk=>by rw[en _ _ _ _ (by omega),f4 k (by omega) (by omega),ff3 k (by omega),f1 k (by omega),fr k hk]
    refine hQ _ _ _ _ _ (by omega) fz ?_ rfl (.inr ⟨pb,.map (some db),vs',L,rfl,hSt,hI',hro,?_,?_⟩)
    ·exact(by simp(disch:=omega)only[fB,eS,eR,and_self,g1,g2,g4.mod (show n<=n2+1 by omega) (show n<=pb by omega)])
    ·exact P4.other b2 (by decide) (by simp) (by omega) λk hk=>en _ _ _ _ hk
    ·rw[hL];refine⟨db,rfl,hdb,(en _ _ _ _ ?_).trans hmd,hes⟩;rintro rfl;rw[hmd]at b2;cases b2
   ·have hcl:=(hM2.2 M4 n4 db _ hdb hmd);rw[<-kU (P:=PG) (Y:=Y) e56]at hcl;simp(disch:=omega)only[W_,eu,to,U5,AS,By,BY,q1,ql,b0,od];refine fI hcl λv5 M5 n5 r5 w5 ⟨k5,f5,g5,db',hv5,hdb1,hdb2,hmd'⟩=>?_;subst hv5;have y5:=(f5 n2 (by omega)).trans y4;have P5:=P4.frame k5 f5;have b5:=(f5 (n+2) (by omega)).trans b2;simp(disch:=omega)only[W_,eu,to,U5,AS,By,BY,q1,ql,y5,lX,belowF_map,mc];have fp:∀c,c≠n2->(If M5 n2 (some (.cells [.pointer (some ⟨pb,0,none⟩),.map (some db')] 0 false true)):FM) c=M5 c:=λc hc=>en _ _ _ _ hc;have t6:=eB M5 n2 (some (.cells [.pointer (some ⟨pb,0,none⟩),.map (some db')] 0 false true));have P6:=P5.other (M':=If M5 n2 (some (.cells [.pointer (some ⟨pb,0,none⟩),.map (some db')] 0 false true))) y5 (by decide) (by simp) (by omega) fp;revert fp t6 P6;generalize (If M5 n2 (some (.cells [.pointer (some ⟨pb,0,none⟩),.map (some db')] 0 false true)):FM)=M6;intro fp t6 P6;have hmd6:=(fp db' (by rintro rfl;rw[hmd']at y5;cases y5)).trans hmd'
    have hW6:SlZ 9 M6 0 n5 wv L.length (wrC L):=by
     rcases hW4 with hW|⟨w1',w2',wb,rfl,w3,w4',w5'⟩
     ·exact .inl hW
     ·refine .inr ⟨w1',w2',wb,rfl,w3,by omega,?_⟩;refine(fp wb ?_).trans ((f5 wb w4').trans w5');rintro rfl;rw[w5']at y4;injection y4 with y4
      injection y4 with _ y4
      cases y4
    refine ic (Pe hW6 hOk hll (ob:=n2) (pb:=pb) (by omega) t6 hdb2 hmd6 _ _ _ _ _ _ _ L.length 0 es _ M6 n5 (by omega) (IN _) hes hmd6 (λ_ _ _=>rfl)) λX e M7 n7 r7 w7 ⟨⟨z1,z2,hX,he⟩,k7,hes7,hm7,f7,g7⟩=>?_;subst hX he;have hn2d:n2≠db':=by omega
    have y7:=(f7 n2 (by omega) hn2d).trans t6;have b7:=(f7 (n+2) (by omega) (by omega)).trans ((fp (n+2) (by omega)).trans b5);simp(disch:=omega)only[W_,eu,to,U5,AS,By,BY,y7,b7,lX,mc,SK,SJ];have f74:∀k,k<n4->k≠n2->M7 k=M4 k:=λk hk hne=>by rw[f7 k (by omega) (by omega),fp k hne,f5 k hk]
    have P7:j6 S M7 n7 pb vs':=(P4.other (M':=If M4 n2 (some (.cells [.pointer (some ⟨pb,0,none⟩),.map (some db')] 0 false true))) y4 (by decide) (by simp) (by omega) λk hk=>en _ _ _ _ hk).frame (by omega) λk hk=>by
     by_cases e:k=n2
     ·subst e;rw[y7];exact(eB _ _ _).symm
     ·rw[en _ _ _ _ e];exact f74 k hk e
    have fz:∀k,k<n->(If M7 (n+2) (some (.cells [.pointer (some ⟨pb,0,none⟩),.map (some db')] 0 false true)):FM) k=m k:=λk hk=>by rw[en _ _ _ _ (by omega),f74 k (by omega) (by omega),f4 k (by omega) (by omega),ff3 k (by omega),f1 k (by omega),fr k hk]
    refine hQ _ _ _ _ _ (by omega) fz (by simp(disch:=omega)only[fB,eS,eR,and_self,g1,g2,g4.mod (show n<=n2+1 by omega) (show n<=pb by omega),g5,g7.mod (show n<=n5 by omega) (show n<=db' by omega)]) rfl (.inr ⟨pb,.map (some db'),vs',L,rfl,hSt,hI',hro,P7.other b7 (by decide) (by simp) (by omega) λk hk=>en _ _ _ _ hk,db',rfl,by omega,?_,?_⟩)
    ·rw[UZ]at hm7;refine(en _ _ _ _ ?_).trans hm7;rintro rfl;rw[hm7]at b7;cases b7
    ·rw[UZ]at hes7;exact hes7
def zQ:AT:=.agg #[.int .u8 0,.int .u8 0,.int .u8 0,.int .u8 0,.int .u8 0,.int .u8 0,.int .u8 0,.int .u8 0]
theorem IZ:qP zQ:=⟨[0,0,0,0,0,0,0,0],rfl,rfl⟩
noncomputable def vP(es:DE)(v:Vo)(a:Nat):AT:=match lk v.P a with|some z=>(kn (z:Int) es).getD zQ|none=>zQ
theorem A7:∀{es:DE} {t:Int} {x:AT},(∀p∈es,qP p.2)->kn t es=some x->qP x
 |[],_,_,_,h=>by cases h
 |p::es,t,x,hb,h=>by
  unfold kn at h;split at h
  ·injection h with h
   subst h;exact hb _ (Tk ..)
  ·exact A7 (λp hp=>hb p (SQ _ hp)) h
theorem CL{es:DE}(hb:∀p∈es,qP p.2)(v:Vo)(a:Nat):qP (vP es v a):=by
 unfold vP
 cases lk v.P a with
 |none=>exact IZ
 |some z=>
  cases h:kn (z:Int) es with
  |none=>simp only[h,Option.getD_none];exact IZ
  |some x=>simp only[h,Option.getD_some];exact A7 hb h
theorem Eo{cv mv:AT}(h:FamR S M N cv mv vs):gy (.agg #[cv,mv])=false:=by obtain⟨b,k,o,w,rfl,_⟩:=h.c;rfl
theorem En(h:j6 S m n b vs):Kp (fL PG EL Y 15 [mP b] m n) m n λr m' n'=>∃cv mv,r=fV cv mv/\FamR S m' n' cv mv vs:=by obtain⟨hb,cv,mv,hm,hF⟩:=h;refine gG (R:=λr m' n'=>∃cv mv,r=fV cv mv/\FamR S m' n' cv mv vs) e15 rfl λQ hQ=>?_;have o1:=hF.c.one;have o2:=hF.m.one;simp only[afu,mP];simp(disch:=omega)only[W_,eu,to,U5,AS,By,BY,lg,hm,o1,o2,dW o1,dW o2];have fr:∀x c,c<n->(If m n x:FM) c=m c:=λx c hc=>gu;exact hQ _ _ _ _ _ (by omega) (fr _) (by simp(disch:=omega)only[fB,eS,eR,and_self]) (Eo hF) ⟨cv,mv,rfl,hF.frame (by omega) (fr _)⟩
theorem vw(h:j6 S m n b vs)(od:Am.one dm=true):Kp (fL PG EL Y 22 [.agg #[mP b,dm]] m n) m n λr m' n'=>∃cv mv,r=fV cv mv/\FamR S m' n' cv mv vs:=by refine gG (R:=λr m' n'=>∃cv mv,r=fV cv mv/\FamR S m' n' cv mv vs) e22 rfl λQ hQ=>?_;simp only[afp,mP];simp(disch:=omega)only[W_,eu,to,U5,AS,By,BY,od,dW od];obtain⟨fr,t0,t1⟩:=iu (m:=m) (n:=n) (a:=.cells [.pointer (some ⟨b,0,none⟩),dm] 0 false true) (b:=.cells [.slice none 0 0,.map none] 0 false true);revert fr t0 t1;generalize (If (If m n (some (.cells [.pointer (some ⟨b,0,none⟩),dm] 0 false true))) (n+1) (some (.cells [.slice none 0 0,.map none] 0 false true)):FM)=M0;intro fr t0 t1;have hf:=En (Y:=Y) (h.frame (N':=n+2) (by omega) fr);unfold mP at hf;refine fI hf λv1 M1 n1 r1 w1 ⟨k1,f1,g1,cv,mv,hv1,F1⟩=>?_;subst hv1;have o1:=F1.c.one;have o2:=F1.m.one;have u1:=(f1 (n+1) (by omega)).trans t1;simp(disch:=omega)only[W_,eu,to,U5,AS,By,BY,fV,u1,o1,o2,dW o1,dW o2];exact hQ _ _ _ _ _ (by omega) (λc hc=>gJ (by omega) ((f1 c (by omega)).trans (fr c hc))) (by simp(disch:=omega)only[fB,eS,eR,and_self,g1]) (Eo F1) ⟨cv,mv,rfl,F1.other u1 (by decide) (by simp) λc hc=>en _ _ _ _ hc⟩
theorem aaA{es:DE}(h:DmR M N dm es)(z:Nat):∃r,lu PG (.look 3 zQ false) [dm,.int .i64 (z:Int)] M N=.ok ((kn (z:Int) es).getD zQ) M N r 0:=by obtain⟨b,rfl,hb,hm,_⟩:=h;have:=vG (n:=N) GI hb hm zQ false (z:Int);refine⟨bit b,?_⟩;show lu PG (.look 3 zQ false) [.map (some b),GI.K (z:Int)] M N=_;rw[this];cases kn (z:Int) es<;>rfl
theorem zO{es:DE}(h:j6 S m n b vs)(hD:DmR m n dm es)(hI:Inv S vs){s:ByteArray}{v:Vo}(hv:gK vs s=some v){a:Nat}(ha:a<v.n):Kp (fL PG EL Y 24 [.agg #[mP b,dm],.string s,.int .i64 (a:Int)] m n) m n λr m' n'=>r=.tuple #[vP es v a,.bool (lk v.P a).isSome,.int .i64 0]:=by
 refine gG (R:=λr m' n'=>r=.tuple #[vP es v a,.bool (lk v.P a).isSome,.int .i64 0]) e24 rfl λQ hQ=>?_;have hvo:=hI.found hv;have od:=hD.one;simp only[afo,mP];simp(disch:=omega)only[W_,eu,to,U5,AS,By,BY,od,dW od];obtain⟨fr,t0,t1⟩:=iu (m:=m) (n:=n) (a:=.cells [.pointer (some ⟨b,0,none⟩),dm] 0 false true) (b:=.cells [.int .u8 0,.int .u8 0,.int .u8 0,.int .u8 0,.int .u8 0,.int .u8 0,.int .u8 0,.int .u8 0] 0 false true);revert fr t0 t1;generalize (If (If m n (some (.cells [.pointer (some ⟨b,0,none⟩),dm] 0 false true))) (n+1) (some (.cells [.int .u8 0,.int .u8 0,.int .u8 0,.int .u8 0,.int .u8 0,.int .u8 0,.int .u8 0,.int .u8 0] 0 false true)):FM)=M0;intro fr t0 t1;have hf:=vw (Y:=Y) (h.frame (N':=n+2) (by omega) fr) od;unfold mP at hf;refine fI hf λv1 M1 n1 r1 w1 ⟨k1,f1,g1,cv,mv,hv1,F1⟩=>?_;subst hv1;have o1:=F1.c.one;have o2:=F1.m.one;have u0:=(f1 n (by omega)).trans t0;have u1:=(f1 (n+1) (by omega)).trans t1;have hD1:=(hD.frame (N':=n+2) (by omega) fr).frame k1 f1;have hlk:=rE (Y:=Y) F1 hv hvo.n2 (a:=a) ha;simp(disch:=omega)only[W_,eu,to,U5,AS,By,BY,o1,o2];refine fF hlk λr2=>?_
 cases hl:lk v.P a with
 |none=>simp(disch:=omega)only[W_,eu,to,U5,AS,By,BY,zg,u1];exact hQ _ _ _ _ _ (by omega) (λc hc=>gJ (by omega) ((f1 c (by omega)).trans (fr c hc))) (by simp(disch:=omega)only[fB,eS,eR,and_self,g1]) rfl (by unfold vP;rw[hl];rfl)
 |some z=>
  obtain⟨r3,h3⟩:=aaA hD1 z;unfold zQ at h3;have hb:=CL (λp hp=>(let⟨_,_,_,_,h⟩:=hD;h p hp)) v a (es:=es);have hb2:vP es v a=(kn (z:Int) es).getD zQ:=by unfold vP;rw[hl]
  obtain⟨d,hd8,hde⟩:=hb;rw[hb2,zQ]at hde;rw[hde]at h3;simp(disch:=omega)only[W_,eu,to,U5,AS,By,BY,zg,u0,u1,od,mE,h3,lO hd8,li,oK hd8,oL hd8,ua];exact hQ _ _ _ _ _ (by omega) (λc hc=>gJ (by omega) ((f1 c (by omega)).trans (fr c hc))) (by simp(disch:=omega)only[fB,eS,eR,and_self,g1]) rfl (by rw[hb2,zQ,hde,hl];rfl)
theorem yz{j:Nat}{d:List Int}(h:cs.length=k*8)(hj:j<k)(hd:d.length=8):∃cs',setCells cs (j*8) (u8s d)=some cs'/\cs'.length=k*8:=by
 have h1:(u8s d).length=8:=by rw[u8s,SC,hd]
 have h2:j*8+8<=k*8:=by omega
 refine⟨_,by rw[setCells_eq,if_pos (by rw[h1,h];exact h2)],?_⟩;simp only[IT,List.length_take,List.length_drop,h1,h];omega
theorem ML(z:List AT):∀k,(pY z k).length=k*z.length:=λk=>by
 rw[sP]
 induction k with
 |zero=>simp
 |succ k ih=>rw[List.replicate_succ,List.flatten_cons,IT,ih,Nat.succ_mul];omega
theorem Sf{sb cb:Nat}{es:DE}(h:j6 S m n b vs)(hD:DmR m n dm es)(hI:Inv S vs){c:Cmd}{v:Vo}(hv:gK vs c.vol=some v)(ha:c.at_=(a:Int))(hk:a+k<=v.n)(hsb:sb<n)(hms:m sb=some (.cells [mP b,dm] 0 false true))(hcb:cb<n)(hmc:m cb=some (.cells (c.cells dv) 0 false true))(hob:n<=ob)(e4 e5 e6 e7:AT)(tl:List AT):
  ∀(d j:Nat) (x1:AT) (cs:List AT) (M:FM) (N:Nat),j+d=k->ob<N->cs.length=k*8->M ob=some (.cells cs 8 false true)->(∀c,c<n->M c=m c)->
  Gv (gD PG EL Y Da ([.int .i64 (j:Int),x1,.int .i64 (k:Int),.slice (some ⟨ob,0,none⟩) k k,e4,e5,e6,e7,.pointer (some ⟨cb,0,none⟩),.pointer (some ⟨sb,0,none⟩)]++tl) M N) λX e M' N' w=>(∃z1 z2,X=.exit 0/\e=[z1,z2,.slice (some ⟨ob,0,none⟩) k k,e4,e5,e6,e7,.pointer (some ⟨cb,0,none⟩),.pointer (some ⟨sb,0,none⟩)]++tl)/\N<=N'/\(∀c,c<n->M' c=m c)/\SL w (bit n)=0:=by
 intro d
 induction d with
 |zero=>intro j x1 cs M N hj hN hcs hM hf;refine gA (L:=Da) (b:=vh) rfl ?_;simp only[vh,SK,SJ];simp(disch:=omega)only[W_,eu,to,U5,AS,By,BY];exact⟨⟨x1,_,rfl⟩,IN _,hf⟩
 |succ d ih=>intro j x1 cs M N hj hN hcs hM hf;have hsM:=(hf sb hsb).trans hms;have hcM:=(hf cb hcb).trans hmc;have od:=hD.one;have hvo:=hI.found hv;have hn2:=hvo.n2;refine gA (L:=Da) (b:=vh) rfl ?_;simp only[vh,SK,SJ];unfold mP at hsM;simp(disch:=omega)only[W_,eu,to,U5,AS,By,BY,hsM,hcM,Cmd.cells,ha,od];have hbs:=zO (Y:=Y) (h.frame (N':=N) (by omega) hf) (hD.frame (N':=N) (by omega) hf) hI hv (a:=a+j) (by omega);unfold mP at hbs;obtain⟨w8,hd8,hde⟩:=CL (λp hp=>(let⟨_,_,_,_,h⟩:=hD;h p hp)) v (a+j) (es:=es);rw[hde]at hbs;obtain⟨cs',hs8,hl8⟩:=yz (j:=j) (d:=w8) hcs (by omega) hd8;refine fI hbs λv1 M1 n1 r1 w1 ⟨k1,f1,g1,hv1⟩=>?_;subst hv1;have y1:=(f1 ob hN).trans hM;simp(disch:=omega)only[W_,eu,to,U5,AS,By,BY,y1,hs8,lO hd8,li];exact gR (ih (j+1) x1 cs' _ n1 (by omega) (by omega) hl8 (eB _ _ _) λc hc=>gJ (by omega) ((f1 c (by omega)).trans (hf c hc))) λX e m' n' w ⟨p1,p2,p3,p4⟩=>⟨p1,by omega,p3,(by simp(disch:=omega)only[fB,eS,eR,and_self,g1,p4])⟩
def SlB(v:AT)(N:Nat):Prop:=v=.slice none 0 0\/∃b l k,v=.slice (some ⟨b,0,none⟩) l k/\b<N
theorem SlB.one(h:SlB v N):Am.one v=true:=by rcases h with rfl|⟨b,l,k,rfl,_⟩<;>rfl
theorem SlB.bel(h:SlB v N):∀k,N<=k->iW k v=true/\jz k v=true/\rP k v=true:=λk hk=>by
 rcases h with rfl|⟨b,l,c,rfl,hb⟩
 ·exact⟨rfl,rfl,rfl⟩
 ·have:Te b k=true:=gI (by omega);exact⟨this,this,this⟩
theorem JY(hU:YUp Y){es:DE}(h:j6 S m n b vs)(hD:DmR m n dm es)(hI:Inv S vs){c:Cmd}(hd:jn m n dv c.data)(hv:jm c)(hk:c.kind=1):
  Kp (fL PG EL Y 19 [.agg #[mP b,dm],jx c dv] m n) m n λr m' n'=>∃(x:AT) (e:Int),r=.tuple #[x,.int .i64 e]/\SlB x n':=by
 refine gN (R:=λr m' n'=>∃(x:AT) (e:Int),r=.tuple #[x,.int .i64 e]/\SlB x n') e19 rfl ?_ λQ hQ=>?_
 ·rintro r m' n' hf ⟨x,e,rfl,h⟩;refine⟨x,e,rfl,?_⟩;rcases h with h|⟨b,l,k,rfl,_⟩
  ·exact .inl h
  ·cases hf
 have od:=hD.one;have o3:=hd.one;have hK:=(tZ hk).1 hv;have hin:=hK.2.2.2.2.2.1;unfold iF at hin;obtain⟨a,ha⟩:∃a:Nat,c.at_=(a:Int):=⟨c.at_.toNat,by omega⟩;obtain⟨k,hl⟩:∃k:Nat,c.len=(k:Int):=⟨c.len.toNat,by omega⟩;have hbl:∀k,n<=k->Te b k=true:=λk hk=>gI (TC h.1 hk);have qd:=hD.gU;simp only[afs,mP,jx];simp(disch:=omega)only[W_,eu,to,U5,AS,By,BY,od,o3,dW od,dW o3,ha,hl,qd,hbl];obtain⟨fr,t0,t1⟩:=iu (m:=m) (n:=n) (a:=.cells [.pointer (some ⟨b,0,none⟩),dm] 0 false true) (b:=.cells [.int .i64 c.tag,.int .i64 c.kind,.int .i64 c.ord,.bool c.force,.string c.vol,.string c.oth,.int .i64 (a:Int),.int .i64 (k:Int),dv] 0 false true);revert fr t0 t1;generalize (If (If m n (some (.cells [.pointer (some ⟨b,0,none⟩),dm] 0 false true))) (n+1) (some (.cells [.int .i64 c.tag,.int .i64 c.kind,.int .i64 c.ord,.bool c.force,.string c.vol,.string c.oth,.int .i64 (a:Int),.int .i64 (k:Int),dv] 0 false true)):FM)=M0;intro fr t0 t1;have hf:=vw (Y:=Y) (h.frame (N':=n+2) (by omega) fr) od;unfold mP at hf;refine gP hf λv1 M1 n1 r1 w1 ⟨k1,f1,g1,cv,mv,hv1,F1⟩=>?_;subst hv1;have o1:=F1.c.one;have o2:=F1.m.one;have qc:=F1.c.gU;have qm:=F1.m.gU;have u0:=(f1 n (by omega)).trans t0;have u1:=(f1 (n+1) (by omega)).trans t1;have La:=gE (g1 (n+2) (IN _)) (show n<n+2 by omega);have Lb:=gE (g1 (n+2) (IN _)) (show n+1<n+2 by omega);simp(disch:=omega)only[W_,eu,to,U5,AS,By,BY,fV,La,Lb,u1,o1,o2,qc,qm];by_cases hgood:∃v,gK vs c.vol=some v/\a+k<=v.n
 case neg=>refine gP (yP F1 (s:=c.vol) (a:=a) (k:=k) (by omega) λv hv=>⟨(hI.found hv).n2,Nat.lt_of_not_le λhh=>hgood ⟨v,hv,hh⟩⟩) λv2 M2 n2 r2 w2 ⟨k2,f2,g2,lv,e,hv2,he,ol,Lx,X2⟩=>?_;subst hv2;have qx:=X2.HK;simp(disch:=omega)only[W_,eu,to,U5,AS,By,BY,ol,he,qx,iS,iT];exact hQ _ _ _ _ _ (by omega) (λc hc=>(f2 c (by omega)).trans ((f1 c (by omega)).trans (fr c hc))) (by simp(disch:=omega)only[fB,eS,eR,and_self,g1,g2]) ⟨_,e,rfl,.inl rfl⟩
 obtain⟨v,hvf,hin2⟩:=hgood;refine gP (wj F1 hvf (hI.found hvf).n2 hin2) λv2 M2 n2 r2 w2 ⟨k2,f2,g2,lv,hv2,X2⟩=>?_;subst hv2;have ol:=X2.one;obtain⟨Lx,X2,_⟩:=X2;have qx:=X2.HK;have Lc:=gE (g2 n1 (IN _)) (show n<n1 by omega);have Ld:=gE (g2 n1 (IN _)) (show n+1<n1 by omega);have y0:=(f2 n (by omega)).trans u0;have y1:=(f2 (n+1) (by omega)).trans u1;simp(disch:=omega)only[W_,eu,to,U5,AS,By,BY,ol,qx,Lc,Ld,y1,iS,iT];have f2':∀c,c<n->M2 c=m c:=λc hc=>(f2 c (by omega)).trans ((f1 c (by omega)).trans (fr c hc));have mc2:M2 (n+1)=some (.cells (c.cells dv) 0 false true):=by rw[y1,Cmd.cells,ha,hl]
 refine ic (Sf (h.frame (N':=n2) (by omega) f2') (hD.frame (N':=n2) (by omega) f2') hI hvf ha hin2 (show n<n2 by omega) y0 (show n+1<n2 by omega) mc2 (IN n2) _ _ _ _ _ k 0 _ _ _ (n2+1) (by omega) (by omega) (ML _ k) (eB _ _ _) λc hc=>gu) λX e M3 n3 r3 w3 ⟨⟨z1,z2,hX,he⟩,k3,f3,g3⟩=>?_;subst hX he;simp(disch:=omega)only[W_,eu,to,U5,AS,By,BY,SK,SJ];exact hQ _ _ _ _ _ (by omega) (λc hc=>(f3 c (by omega)).trans (f2' c hc)) (by simp(disch:=omega)only[fB,eS,eR,and_self,g1,g2,jE g3 (show n<=n2 by omega)]) ⟨_,0,rfl,.inr ⟨_,_,_,rfl,by omega⟩⟩
def nw(M:FM)(N:Nat)(v:AT)(k:Nat):Prop:=∃cs,SlZ 2 M 0 N v k cs/\cs.all Am.one=true
theorem nw.one(h:nw M N v k):Am.one v=true:=let⟨_,h,_⟩:=h;h.one
theorem nw.bel(h:nw M N v k):∀j,N<=j->iW j v=true:=let⟨_,h,_⟩:=h;h.bel
theorem nw.frame{M':FM}{N N':Nat}{k:Nat}(h:nw M N v k)(hN:N<=N')(hf:∀b,b<N->M' b=M b):nw M' N' v k:=let⟨cs,h1,h2⟩:=h;⟨cs,h1.frame hN λb _ hb=>hf b hb,h2⟩
theorem nw.other{M':FM}{k:Nat}(h:nw M N v k)(hN:N<=N')(hk:M k0=some (.cells c 0 o w))(hM:∀b,b<N->b≠k0->M' b=M b):nw M' N' v k:=by
 obtain⟨cs,h1,h2⟩:=h;refine⟨cs,?_,h2⟩;rcases h1 with h1|⟨a1,a2,b,rfl,a3,a4,a5⟩
 ·exact .inl h1
 ·refine .inr ⟨a1,a2,b,rfl,a3,by omega,(hM b a4 ?_).trans a5⟩;rintro rfl;rw[hk]at a5;injection a5 with a5
  injection a5 with _ a5
  cases a5
theorem nw.nil(M:FM)(N:Nat):nw M N (.slice none 0 0) 0:=⟨[],.inl ⟨rfl,rfl,rfl⟩,rfl⟩
theorem NM:mA PG 70=true:=by kernel_rfl
theorem CC(h:SlZ 2 m 0 n v k cs)(h1:cs.all Am.one=true)(hk:k<=1000):Rt (fL PG EL Y 21 [v] m n) λv' m' n' w=>n<=n'/\(∀b,b<n->m' b=m b)/\(∀j,j<=n->SL w (bit j)=0)/\SlZ 2 m' n n' v' k cs:=by
 refine mT (R:=λv' m' n'=>SlZ 2 m' n n' v' k cs) e21 rfl λQ hQ=>?_;simp only[afq];rcases h with⟨rfl,rfl,rfl⟩|⟨h0,hl,b,rfl,_,hb,hm⟩
 ·simp(disch:=omega)only[W_,eu,U5,to,AS,By,BY,IS,mU NM,isNone_none];exact hQ _ _ _ _ _ (IN _) (λ_ _=>rfl) (by simp(disch:=omega)only[fB,eS,eR,and_self]) (λ_=>.inl ⟨rfl,rfl,rfl⟩) (λ_=>.inl ⟨rfl,rfl,rfl⟩)
 ·simp(disch:=omega)only[W_,eu,U5,to,AS,By,BY,IS,mU NM,isNone_some];have hsh:pW 2 0 k b (m b)=some (cs,bit b):=by rw[hm,jr,Nat.beq_refl,ja,kT,lD hl.symm];rfl
  rw[hsh];refine fI (CP (n0:=n) (by omega) (eB _ _ _) h1 (by omega) (by omega) (by omega) hl) λv2 M2 N2 r2 w2 ⟨k2,f2,g2,b2,c2,opn2,hv2,h3,h4,h5,h6⟩=>?_;obtain⟨rfl,rfl⟩:=h6 h0;subst hv2;simp(disch:=omega)only[W_,eu,U5,to,AS,By,BY,IS];refine hQ _ _ _ _ _ (by omega) (λb hb=>(f2 b hb).trans (en _ _ _ _ (by omega))) (by simp(disch:=omega)only[fB,eS,eR,and_self,g2]) (λ_=>.inr ⟨h0,hl,b2,rfl,h3,h4,h5⟩) (λh=>by cases h)
def sF(S:Nat)(M:FM)(N mb:Nat)(vs:List Vo)(es:DE)(k:Nat):Prop:=mb<N/\∃pb dm pv,M mb=some (.cells [.pointer (some ⟨pb,0,none⟩),dm,pv] 0 false true)/\j6 S M N pb vs/\DmR M N dm es/\nw M N pv k
theorem sF.frame{M':FM}{N N':Nat}{es:DE}{k:Nat}(h:sF S M N mb vs es k)(hN:N<=N')(hf:∀b,b<N->M' b=M b):sF S M' N' mb vs es k:=
 let⟨h1,pb,dm,pv,h2,h3,h4,h5⟩:=h
 ⟨by omega,pb,dm,pv,(hf mb h1).trans h2,h3.frame hN hf,h4.frame hN hf,h5.frame hN hf⟩
theorem wx{S:Nat}(hS:S<=65536)(h0:0<S):Kp (fL PG EL Y 6 [.int .i64 (S:Int)] m n) m n λr m' n'=>∃b,r=.tuple #[mP b,.int .i64 0]/\n<=b/\sF S m' n' b [] [] 0:=by
 refine gG (R:=λr m' n'=>∃b,r=.tuple #[mP b,.int .i64 0]/\n<=b/\sF S m' n' b [] [] 0) e6 rfl λQ hQ=>?_;simp only[ac6];simp(disch:=omega)only[W_,eu,U5,to,AS,By,BY,IS];refine fI (AN hS h0) λv1 M1 n1 r1 w1 ⟨k1,f1,g1,b,hv1,_,P1⟩=>?_;subst hv1;unfold mP;have hmk:lu PG .mk [] M1 n1=.ok (.map (some n1)) (If M1 n1 (some (.map []))) (n1+1) 0 (bit n1):=rfl;simp(disch:=omega)only[W_,eu,U5,to,AS,By,BY,IS,mE,hmk,lX,mc];have fr:∀x y c,c<n1->(If (If M1 n1 x) (n1+1) y:FM) c=M1 c:=λx y c hc=>by rw[en _ _ _ _ (by omega),en _ _ _ _ (by omega)]
 refine hQ _ _ _ _ _ (by omega) (λc hc=>(fr _ _ c (by omega)).trans (f1 c hc)) (by simp(disch:=omega)only[fB,eS,eR,and_self,g1]) rfl ⟨n1+1,rfl,by omega,by omega,b,.map (some n1),_,eB _ _ _,P1.frame (by omega) (fr _ _),⟨n1,rfl,by omega,?_,λp hp=>(by cases hp)⟩,nw.nil _ _⟩;rw[en _ _ _ _ (by omega)];exact eB _ _ _
theorem O9{P:Program}{E:Nat->Option AFn}{f:Nat}{fn:AFn}{args:List AT}{R:AT->FM->Nat->Nat->Prop}(hE:E f=some fn)(ha:kO args=fn.na)(hR:∀v m' n' w,R v m' n' w->gy v=true->SL w (bit n)=0->R v m n 0)(h:∀Q:AX->List AT->FM->Nat->Nat->Prop,(∀v e m' n' w,R v m' n' w->Q (.ret v) e m' n' w)->Wr P E Y [] 0 (gD P E Y fn.code args m n) Q):Rt (fL P E Y f args m n) R:=by
 rw[lT hE ha];obtain⟨X,e',m',n',r,w,hx,v,rfl,h2⟩:=kF (kG (h (λX _ m' n' w=>∃v,X=.ret v/\R v m' n' w) λv _ m' n' w k=>⟨v,rfl,k⟩));rw[hx,lz];unfold iI;cases h3:gy v
 ·exact h2
 ·cases h4:Nat.beq (SL w (bit n)) 0
  ·exact h2
  ·rw[Bool.and_self,cond_true,gX];exact hR _ _ _ _ h2 h3 (Nat.eq_of_beq_eq_true h4)
theorem uH(a:Addr):nk PG .eql 27 (.pointer (some a)) (.pointer none)=some (.bool false):=by rw[qB (by kernel_rfl)];rfl
theorem jn.gU{ds:List (List Int)}(h:jn m n v ds)(k:Nat)(hk:n<=k):jz k v=true:=by have:=h.bel k hk;obtain⟨a,c,rfl,_⟩:=h;cases a<;>exact this
def AppR(S mb:Nat)(vs:List Vo)(es:DE)(k:Nat)(c:Cmd)(m:FM)(n:Nat)(v:AT)(m':FM)(n' w:Nat):Prop:=
 ∃(e:Int) (x:AT),v=.agg #[.int .i64 c.tag,.int .i64 e,x]/\Am.one x=true/\n<=n'/\
  (((∀b,b<n->m' b=m b)/\SL w (bit n)=0/\(c.kind=1\/(e≠0/\(jm c->¬Jj S vs c))))\/
  (U5 w mb=true/\mI w n mb/\(∀b,b<n->b≠mb->m' b=m b)/\∃vs' es' k',k'<=k+1/\sF S m' n' mb vs' es' k'/\Inv S vs'/\0<=room S vs'/\((c.kind=4/\vs'=vs)\/(e=0/\∃L,StepR S vs c vs' L/\es'=dsF es L))))
theorem j6.ne(h:j6 S M N b vs)(hk:M k=some (.cells c s o w))(hc:c.length≠2):k≠b:=by
 rintro rfl;obtain⟨_,cv,mv,h2,_⟩:=h;rw[hk]at h2;injection h2 with h2
 injection h2 with h2
 subst h2;exact hc rfl
theorem j6.ne2{q:Option Addr}(h:j6 S M N b vs)(hk:M k=some (.cells (.pointer q::c) s o w)):k≠b:=by
 rintro rfl;obtain⟨_,cv,mv,h2,h3⟩:=h;obtain⟨b',k',o',w',rfl,_⟩:=h3.c;rw[hk]at h2;injection h2 with h2
 injection h2 with h2
 injection h2 with h2
 cases h2
theorem zc{k:Nat}{es:DE}{pv a b c:AT}(hmb:mb<N)(hm:M mb=some (.cells [a,b,c] 0 false true))(P:j6 S M N pb vs)(D:DmR M N dm es)(A:nw M N pv k):sF S (If M mb (some (.cells [.pointer (some ⟨pb,0,none⟩),dm,pv] 0 false true))) N mb vs es k:=⟨hmb,pb,dm,pv,eB _ _ _,P.other hm (by decide) (by simp) (P.ne hm (by simp)) λc hc=>en _ _ _ _ hc,D.other (IN _) hm λc _ hc=>en _ _ _ _ hc,A.other (IN _) hm λc _ hc=>en _ _ _ _ hc⟩
theorem sF.other{M':FM}{es:DE}{k:Nat}(h:sF S M N mb vs es k)(hN:N<=N')(hk:M k0=some (.cells c 0 o w))(hc:c.length≠8)(hc2:c.length≠2)(hne:k0≠mb)(hM:∀b,b<N->b≠k0->M' b=M b):sF S M' N' mb vs es k:=by
 obtain⟨h1,pb,dm,pv,h2,h3,h4,h5⟩:=h;have h6:=h3.other (M':=If M k0 (M' k0)) hk (by decide) hc (h3.ne hk hc2) λc hc=>en _ _ _ _ hc;refine⟨by omega,pb,dm,pv,(hM mb h1 (Ne.symm hne)).trans h2,h6.frame hN λb hb=>?_,h4.other hN hk hM,h5.other hN hk hM⟩;by_cases e:b=k0
 ·subst e;exact(eB _ _ _).symm
 ·rw[en _ _ _ _ e];exact hM b hb e
theorem qF(hU:YUp Y)(hC:me Y)(hN:qS Y)(hY:jf Y)(hCo:Ag Y)(hM:lL Y 164)(hM2:lL Y 56)(hA:ApY Y)(hT:nK Y){es:DE}(h:sF S m n mb vs es k)(hI:Inv S vs)(hr:0<=room S vs)(hS:S<=65536)(h0:0<S)(hk:k<=900){c:Cmd}(hd:jn m n dv c.data)(hF:c.Fit):
  Rt (fL PG EL Y 7 [mP mb,jx c dv] m n) (AppR S mb vs es k c m n):=by
 refine O9 e7 rfl ?_ λQ hQ=>?_
 ·rintro v m' n' w ⟨e,x,h1,h2,h3,h4⟩ hf hw;refine⟨e,x,h1,h2,IN _,.inl ?_⟩;rcases h4 with⟨_,_,h4⟩|⟨h4,_⟩
  ·exact⟨λ_ _=>rfl,Nat.zero_mod _,h4⟩
  ·rw[iO hw mb h.1]at h4;cases h4
 obtain⟨hmb,pb,dm,pv,hm,P,D,A⟩:=h;have o3:=hd.one;have od:=D.one;have op:=A.one;have qd:=D.gU;simp only[ac7,mP,jx];simp(disch:=omega)only[W_,eu,U5,to,AS,By,BY,IS,o3,dW o3,uH];obtain⟨fr,t0,t1,t2⟩:=jP (m:=m) (n:=n) (a:=.cells [.int .i64 c.tag,.int .i64 c.kind,.int .i64 c.ord,.bool c.force,.string c.vol,.string c.oth,.int .i64 c.at_,.int .i64 c.len,dv] 0 false true) (b:=.cells [.int .i64 0,.int .i64 0,.slice none 0 0] 0 false true) (c:=.cells [.int .i64 c.tag,.int .i64 0,.slice none 0 0] 0 false true);revert fr t0 t1 t2;generalize (If (If (If m n (some (.cells [.int .i64 c.tag,.int .i64 c.kind,.int .i64 c.ord,.bool c.force,.string c.vol,.string c.oth,.int .i64 c.at_,.int .i64 c.len,dv] 0 false true))) (n+1) (some (.cells [.int .i64 0,.int .i64 0,.slice none 0 0] 0 false true))) (n+2) (some (.cells [.int .i64 c.tag,.int .i64 0,.slice none 0 0] 0 false true)):FM)=M0;intro fr t0 t1 t2;have d0:=hd.frame (n':=n+3) (by omega) fr;have P0:=P.frame (N':=n+3) (by omega) fr;have D0:=D.frame (N':=n+3) (by omega) fr;have A0:=A.frame (N':=n+3) (by omega) fr;have m0:=(fr mb hmb).trans hm;have hvl:=Ap (Y:=Y) hT M0 (n+3) c dv hF d0;unfold jx at hvl;refine fF hvl λr1=>?_
 cases hvb:jJ c with
 |false=>
  simp(disch:=omega)only[W_,eu,U5,to,AS,By,BY,IS,t1,t2];refine hQ _ _ _ _ _ ⟨1,_,rfl,rfl,by omega,.inl ⟨λb hb=>?_,(by simp(disch:=omega)only[fB,eS,eR,and_self]),.inr ⟨by decide,λhvp=>?_⟩⟩⟩
  ·rw[en _ _ _ _ (by omega),en _ _ _ _ (by omega),fr b hb]
  ·rw[kr.2 hvp]at hvb;cases hvb
 |true=>
  have hv:=kr.1 hvb;by_cases k1:c.kind=1
  ·have hbl:∀k,n<=k->Te pb k=true:=λk hk=>gI (TC P.1 hk);have qdv:=hd.gU;simp(disch:=omega)only[W_,eu,U5,to,AS,By,BY,IS,t0,t1,t2,k1,m0,op,od,hbl,qd,qdv];have hrd:=JY hU P0 D0 hI d0 hv k1;unfold jx mP at hrd;rw[k1]at hrd;refine gP hrd λv1 M1 n1 r2 w1 ⟨q1,f1,g1,x,e,hv1,hx⟩=>?_;subst hv1;have ox:=hx.one;have bx:=hx.bel;have y1:=(f1 (n+1) (by omega)).trans t1;have y2:=(f1 (n+2) (by omega)).trans t2;have La:=gE (g1 (n+3) (IN _)) (show n+2<n+3 by omega);have Lb:=gE (g1 (n+3) (IN _)) (show n+1<n+3 by omega);simp(disch:=omega)only[W_,eu,U5,to,AS,By,BY,IS,y1,y2,ox,bx,iS,iT,La,Lb,dW ox];refine hQ _ _ _ _ _ ⟨e,x,rfl,ox,by omega,.inl ⟨λb hb=>?_,(by simp(disch:=omega)only[fB,eS,eR,and_self,g1]),.inl k1⟩⟩;rw[en _ _ _ _ (by omega),en _ _ _ _ (by omega),f1 b (by omega),fr b hb]
  ·by_cases k4:c.kind=4
   ·simp(disch:=omega)only[W_,eu,U5,to,AS,By,BY,IS,t0,t1,t2,k4,m0,op,od];have hU1:=zc (k:=0) (show mb<n+3 by omega) m0 P0 D0 (nw.nil _ _);have y1:(If M0 mb (some (.cells [.pointer (some ⟨pb,0,none⟩),dm,.slice none 0 0] 0 false true)):FM) (n+1)=some (.cells [.int .i64 0,.int .i64 0,.slice none 0 0] 0 false true):=(en _ _ _ _ (by omega)).trans t1;refine hQ _ _ _ _ _ ⟨0,_,rfl,rfl,by omega,.inr ⟨by simp only[gv,gx];simp,λj hj hne=>?_,λb hb hne=>?_,vs,es,0,by omega,hU1.other (IN _) y1 (by simp) (by simp) (by omega) λc _ hc=>en _ _ _ _ hc,hI,hr,.inl ⟨k4,rfl⟩⟩⟩
    ·simp only[gv,gx];simp;omega
    ·rw[en _ _ _ _ (by omega),en _ _ _ _ hne,fr b hb]
   ·have hkk:c.kind≠1/\c.kind≠4:=⟨k1,k4⟩;have hbl:∀k,n<=k->Te pb k=true:=λk hk=>gI (TC P.1 hk);have qdv:=hd.gU;simp(disch:=omega)only[W_,eu,U5,to,AS,By,BY,IS,t0,t1,t2,k1,k4,m0,op,od,hbl,qd,qdv];have f1:∀x c,c<n+3->(If M0 (n+3) x:FM) c=M0 c:=λx c hc=>gu;have t3:=eB M0 (n+3) (some (.cells [.pointer none,.map none] 0 false true));have haf:=HX hU hC hN hY hCo hM hM2 hA (P0.frame (N':=n+4) (by omega) (f1 (some (.cells [.pointer none,.map none] 0 false true)))) (D0.frame (N':=n+4) (by omega) (f1 _)) hI hr hS h0 (d0.frame (n':=n+4) (by omega) (f1 _)) hv hkk;unfold jx mP at haf;have ff1:∀c,c<n+3->(If M0 (n+3) (some (.cells [.pointer none,.map none] 0 false true)):FM) c=M0 c:=f1 _;revert ff1 t3 haf;generalize (If M0 (n+3) (some (.cells [.pointer none,.map none] 0 false true)):FM)=M1;intro t3 haf ff1;refine gP haf λv2 M2 n2 r2 w2 ⟨k2,f2,g2,h2⟩=>?_;have y1:=(f2 (n+1) (by omega)).trans ((ff1 _ (by omega)).trans t1);have y2:=(f2 (n+2) (by omega)).trans ((ff1 _ (by omega)).trans t2);have y3:=(f2 (n+3) (by omega)).trans t3;have La:=gE (g2 (n+4) (IN _)) (show n+2<n+4 by omega);have Lb:=gE (g2 (n+4) (IN _)) (show n+1<n+4 by omega);have Lc:=gE (g2 (n+4) (IN _)) (show n+3<n+4 by omega);rcases h2 with⟨e,he,hv2,hx⟩|⟨pb',dm',vs',L,hv2,hSt,hI',hr',P2,D2⟩
    ·unfold mP at hv2;subst hv2;have qd2:=(D0.frame (N':=n+4) (by omega) ff1).frame k2 f2 |>.gU;simp(disch:=omega)only[W_,eu,U5,to,AS,By,BY,IS,y1,y2,y3,La,Lb,Lc,od,qd2,hbl,iS,jl,iT,dW od];refine hQ _ _ _ _ _ ⟨e,_,rfl,rfl,by omega,.inl ⟨λb hb=>?_,(by simp(disch:=omega)only[fB,eS,eR,and_self,g2]),.inr ⟨he,λ_=>hx⟩⟩⟩;rw[en _ _ _ _ (by omega),en _ _ _ _ (by omega),en _ _ _ _ (by omega),f2 b (by omega),ff1 b (by omega),fr b hb]
    ·unfold mP at hv2;subst hv2;have od2:=D2.one;have qd2:=D2.gU;have hbl2:∀k,n2<=k->Te pb' k=true:=λk hk=>gI (TC P2.1 hk);have m2:=(f2 mb (by omega)).trans ((ff1 mb (by omega)).trans m0);have qpv:=A.bel;simp(disch:=omega)only[W_,eu,U5,to,AS,By,BY,IS,y1,y2,y3,m2,op,qpv,La,Lb,Lc,od2,qd2,hbl2,iS,jl,iT,dW od2];have f3:∀x y c,c<n+2->(If (If M2 (n+3) x) (n+2) y:FM) c=M2 c:=λx y c hc=>by rw[en _ _ _ _ (by omega),en _ _ _ _ (by omega)]
     have z2:=eB (If M2 (n+3) (some (.cells [.pointer (some ⟨pb',0,none⟩),dm'] 0 false true))) (n+2) (some (.cells [.int .i64 c.tag,.int .i64 0,.slice none 0 0] 0 false true));have z3:(If (If M2 (n+3) (some (.cells [.pointer (some ⟨pb',0,none⟩),dm'] 0 false true))) (n+2) (some (.cells [.int .i64 c.tag,.int .i64 0,.slice none 0 0] 0 false true)):FM) (n+3)=some (.cells [.pointer (some ⟨pb',0,none⟩),dm'] 0 false true):=by rw[en _ _ _ _ (by omega)];exact eB _ _ _
     have z1:(If (If M2 (n+3) (some (.cells [.pointer (some ⟨pb',0,none⟩),dm'] 0 false true))) (n+2) (some (.cells [.int .i64 c.tag,.int .i64 0,.slice none 0 0] 0 false true)):FM) (n+1)=_:=(f3 _ _ _ (by omega)).trans y1;have ff3:∀c',c'<n->(If (If M2 (n+3) (some (.cells [.pointer (some ⟨pb',0,none⟩),dm'] 0 false true))) (n+2) (some (.cells [.int .i64 c.tag,.int .i64 0,.slice none 0 0] 0 false true)):FM) c'=m c':=λc' hc=>by rw[f3 _ _ c' (by omega),f2 c' (by omega),ff1 c' (by omega),fr c' hc]
     have hPa:j6 S (If M2 (n+3) (some (.cells [.pointer (some ⟨pb',0,none⟩),dm'] 0 false true))) n2 pb' vs':=P2.other y3 (by decide) (by simp) (P2.ne2 y3) λc hc=>en _ _ _ _ hc;have yb:(If M2 (n+3) (some (.cells [.pointer (some ⟨pb',0,none⟩),dm'] 0 false true)):FM) (n+2)=some (.cells [.int .i64 c.tag,.int .i64 0,.slice none 0 0] 0 false true):=(en _ _ _ _ (by omega)).trans y2;have hP3:j6 S (If (If M2 (n+3) (some (.cells [.pointer (some ⟨pb',0,none⟩),dm'] 0 false true))) (n+2) (some (.cells [.int .i64 c.tag,.int .i64 0,.slice none 0 0] 0 false true))) n2 pb' vs':=hPa.other yb (by decide) (by simp) (hPa.ne yb (by simp)) λc hc=>en _ _ _ _ hc;have hD3:DmR (If (If M2 (n+3) (some (.cells [.pointer (some ⟨pb',0,none⟩),dm'] 0 false true))) (n+2) (some (.cells [.int .i64 c.tag,.int .i64 0,.slice none 0 0] 0 false true))) n2 dm' (dsF es L):=(D2.other (M':=If M2 (n+3) (some (.cells [.pointer (some ⟨pb',0,none⟩),dm'] 0 false true))) (IN _) y3 λc _ hc=>en _ _ _ _ hc).other (IN _) yb λc _ hc=>en _ _ _ _ hc;have z0:(If (If M2 (n+3) (some (.cells [.pointer (some ⟨pb',0,none⟩),dm'] 0 false true))) (n+2) (some (.cells [.int .i64 c.tag,.int .i64 0,.slice none 0 0] 0 false true)):FM) n=_:=(f3 _ _ _ (by omega)).trans ((f2 n (by omega)).trans ((ff1 n (by omega)).trans t0));revert z2 z3 z1 ff3 hP3 hD3 z0;generalize (If (If M2 (n+3) (some (.cells [.pointer (some ⟨pb',0,none⟩),dm'] 0 false true))) (n+2) (some (.cells [.int .i64 c.tag,.int .i64 0,.slice none 0 0] 0 false true)):FM)=M3;intro z2 z3 z1 ff3 hP3 hD3 z0;have m3:=(ff3 mb hmb).trans hm;obtain⟨pcs,hpc,hpo⟩:=A.frame (N':=n2) (by omega) ff3;refine mw hU (CC hpc hpo (by omega)) λv4 M4 n4 r4 w4 ⟨k5,f4,g4,S4⟩ l4=>?_;have o4:=S4.one;have m4:=(f4 mb (by omega)).trans m3;have La:=gE (g4 n2 (IN _)) (show mb<n2 by omega);have Lb:=l4 n4 (IN _);have qo4:=S4.bel;simp(disch:=omega)only[W_,eu,U5,to,AS,By,BY,IS,m4,o4,La,Lb,od,op,qo4,qd,hbl,dW od];refine gP (CO (sz:=2) (zs:=[.pointer (some ⟨pb,0,none⟩),dm]) (S4.frame (N':=n4+1) (by omega) λc _ hc=>gu) _ _ _ (by omega) (by omega) rfl (by simp[od];rfl) (by omega) (by omega)) λv5 M5 n5 r5 w5 A5=>?_;have hn5:=A5.n;subst hn5;have f5:∀c,c<n2->M5 c=M3 c:=λc hc=>by rw[A5.low c hc,en _ _ _ _ (by omega),f4 c hc]
     have m5:=(f5 mb (by omega)).trans m3;have o5:=A5.s.one;have qo5:=A5.s.bel;have Lc:=gE (A5.w n2 (IN _)) (show mb<n2 by omega);have qf5:∀k,n4+2<=k->jz k v5=true:=λk hk=>by rw[A5.v];exact gI (show n4+1<k by omega)
     have w3:=(f5 (n+3) (by omega)).trans z3;have w0':=(f5 n (by omega)).trans z0;have w1':=(f5 (n+1) (by omega)).trans z1;have w2':=(f5 (n+2) (by omega)).trans z2;have P5:=hP3.frame (N':=n4+2) (by omega) f5;have D5:=hD3.frame (N':=n4+2) (by omega) f5
     cases hfo:c.force with
     |false=>
      simp(disch:=omega)only[W_,eu,U5,to,AS,By,BY,IS,m5,o5,La,Lb,Lc,od,od2,op,qo5,qf5,dW o5,dW od2,w0',w1',w2',w3,hfo];refine hQ _ _ _ _ _ ⟨0,_,rfl,rfl,by omega,.inr ⟨by simp only[gv,gx];simp,λj hj hne=>?_,λb hb hne=>?_,vs',dsF es L,k+1,by omega,(zc (show mb<n4+2 by omega) m5 P5 D5 ⟨_,A5.s.low (Tq _),by rw[List.all_append,hpo];simp[od];rfl⟩).other (IN _) ((en _ _ _ _ (by omega)).trans w1') (by simp) (by simp) (by omega) λc _ hc=>en _ _ _ _ hc,hI',hr',.inr ⟨rfl,L,hSt,rfl⟩⟩⟩
      ·simp only[gv,gx,iO (g2 (n+4) (IN _)) j (by omega),iO (g4 n2 (IN _)) j (by omega),iO (A5.w n2 (IN _)) j (by omega)];simp;omega
      ·rw[en _ _ _ _ (by omega),en _ _ _ _ hne,f5 b (by omega),ff3 b hb]
     |true=>
      simp(disch:=omega)only[W_,eu,U5,to,AS,By,BY,IS,m5,o5,La,Lb,Lc,od,od2,op,qo5,qf5,dW o5,dW od2,w0',w1',w2',w3,hfo];refine hQ _ _ _ _ _ ⟨0,_,rfl,rfl,by omega,.inr ⟨by simp only[gv,gx];simp,λj hj hne=>?_,λb hb hne=>?_,vs',dsF es L,0,by omega,(zc (show mb<n4+2 by omega) m5 P5 D5 (nw.nil _ _)).other (IN _) ((en _ _ _ _ (by omega)).trans w1') (by simp) (by simp) (by omega) λc _ hc=>en _ _ _ _ hc,hI',hr',.inr ⟨rfl,L,hSt,rfl⟩⟩⟩
      ·simp only[gv,gx,iO (g2 (n+4) (IN _)) j (by omega),iO (g4 n2 (IN _)) j (by omega),iO (A5.w n2 (IN _)) j (by omega)];simp;omega
      ·rw[en _ _ _ _ (by omega),en _ _ _ _ hne,f5 b (by omega),ff3 b hb]
end Go.Am.CR
