/- The machine and its runs, part 14. -/
import Derived.Test.YtiibhndkoknmnaaGreatDoorB13
set_option linter.unusedVariables false
set_option linter.unusedSimpArgs false
open Go renaming Value→AT,Program→SZ
open Nat renaming testBit→U5,mod→SL,lor→OF,reduceAdd→to,add_zero→Ve,le_refl→IN,ble→Tj,zero_le→Tq,reduceShiftRight→AS,reduceAnd→By,reduceBNe→BY
open Bool renaming and_eq_true→No,and_false→UW,true_and→UT,false_and→Vg,eq_iff_iff→UN,not_true→SY,not_false→SS
open List renaming map_cons→Uc,mem_cons→TG,mem_map→Us,sum_cons→XG,take_succ_eq_append_getElem→Th,length_cons→SA,length_map→SC,take_length→UE,getElem?_eq_getElem→SH,getElem_mem→Tb,take_append_drop→UH,drop_eq_getElem_cons→Tx,length_filter_le→Um,range→Ur,length_range→Wf,take_zero→Ww,countP_le_length→Vf,map_nil→Xx,mem_append→Tw,range'→TX,mem_cons_self→Tk,getElem?_cons_succ→UD,mem_flatMap→Uh,mem_filter→TY,drop_eq_nil_of_le→XU,all_map→XV,all_eq_true→Tv,take_of_length_le→Va
open List.Perm renaming refl→XL
open List.cons renaming injEq→Wm
open Go.Am.AMem renaming put→If
namespace Go.Am.CR
set_option maxRecDepth 100000
open Go Go.Am
variable{Y:Nat->List AT->FM->Nat->OR FM}
variable{S n k a N fb j b:Nat}{m M:FM}{cv mv:AT}{l:List ByteArray}{xs L:List Ex}{P:List Pr}
def Nms(M:FM)(N:Nat)(v:AT)(l:List ByteArray):Prop:=(l=[]/\v=.slice none 0 0)\/∃b k rest opn wr,v=.slice (some ⟨b,0,none⟩) l.length k/\b<N/\M b=some (.cells (l.map Value.string++rest) 1 opn wr)
theorem Nms.one{v:AT}(h:Nms M N v l):Am.one v=true:=by rcases h with⟨_,rfl⟩|⟨b,k,rest,opn,wr,rfl,_⟩<;>rfl
theorem Nms.len{v:AT}(h:Nms M N v l):qR false v=some (.int .i64 (l.length:Int)):=by rcases h with⟨rfl,rfl⟩|⟨b,k,rest,opn,wr,rfl,_⟩<;>rfl
def qS(Y:Nat->List AT->FM->Nat->OR FM):Prop:=∀{S:Nat} {m:FM} {n:Nat} {cv mv:AT} {vs:List Vo},FamR S m n cv mv vs->Inv S vs->Kp (fL PG EL Y 16 [fV cv mv] m n) m n λv m' n'=>∃l,l.Perm (vs.map Vo.nm)/\Nms m' n' v l
def CF(vs:List Vo)(s:ByteArray):Nat:=match gK vs s with|some v=>ix vs v|none=>0
theorem Rp{k0:Nat}{f:Nat}{fn:AFn}{args:List AT}{R:FM->Nat->Nat->Prop}(hE:EL f=some fn)(ha:kO args=fn.na)(he:fn.endrs=[])(hk0:k0<n)(h:∀Q:AX->List AT->FM->Nat->Nat->Prop,(∀X e m' n' w,X=.norm\/X=.ret (.tuple #[])->U5 w k0=true->R m' n' w->Q X e m' n' w)->Wr PG EL Y [] 0 (gD PG EL Y fn.code args m n) Q):Rt (fL PG EL Y f args m n) λv m' n' w=>R m' n' w:=by
 rw[lT hE ha];obtain⟨X,e',m',n',r,w,hx,hX,h1,h2⟩:=kF (kG (h (λX _ m' n' w=>(X=.norm\/X=.ret (.tuple #[]))/\U5 w k0=true/\R m' n' w) λ_ _ m' n' w k1 k2 k3=>⟨k1,k2,k3⟩));rw[hx];have hn:¬SL w (bit n)=0:=λhw=>by rw[iO hw k0 hk0]at h1;cases h1
 have fin:∀r,Rt (iI m n (.tuple #[]) m' n' r w) λv m' n' w=>R m' n' w:=λr=>by
  unfold iI;cases hc:(gy (.tuple #[])&&Nat.beq (SL w (bit n)) 0)
  ·exact h2
  ·rw[No]at hc;exact absurd (Nat.eq_of_beq_eq_true hc.2) hn
 rcases hX with rfl|rfl
 ·have e1:zn fn m n (.ok .norm e' m' n' r w)=iI m n (.tuple #[]) m' n' (OF r 0) w:=by show vH m n m' n' r w (pX e' m' n' fn.endrs)=_;rw[he];rfl
  rw[e1];exact fin _
 ·rw[lz];exact fin _
theorem LH(hU:YUp Y)(hC:me Y){nb z:Nat}{vs:List Vo}{s:ByteArray}{v:Vo}(h:FamR S m n cv mv vs)(hI:Inv S vs)(hS:S<=65536)(hv:gK vs s=some v)(hfb:fb<n)(hnb:nb<n)(mf:m fb=some (.cells [cv,mv] 0 false true))(mn:m nb=some (.cells [.int .i64 (z:Int)] 0 false true))(hz:z<=100000000):
  Rt (fL PG EL Y 171 [.string s,.pointer (some ⟨fb,0,none⟩),.pointer (some ⟨nb,0,none⟩)] m n) λ_ m' n' w=>m'=If m nb (some (.cells [.int .i64 ((z+ix vs v:Nat):Int)] 0 false true))/\n'=n/\∀k,k<=nb->SL w (bit k)=0:=by
 have hvo:=hI.found hv;have h1:=hvo.r;have h2:=hvo.n2;have h5:ix vs v<=65536:=by unfold ix;omega
 refine Rp (R:=λm' n' w=>m'=If m nb (some (.cells [.int .i64 ((z+ix vs v:Nat):Int)] 0 false true))/\n'=n/\∀k,k<=nb->SL w (bit k)=0) e171 rfl rfl hnb λQ hQ=>?_;simp only[QG];have o1:=h.c.one;have o2:=h.m.one;simp(disch:=omega)only[W_,eu,to,mf,o1,o2];refine fF (wJ hU hC h hI hS hv) λr1=>?_;simp(disch:=omega)only[W_,eu,to,mn];refine hQ _ _ _ _ _ (.inl rfl) ?_ ⟨rfl,rfl,λk hk=>(by simp(disch:=omega)only[fB,eS,eR,and_self])⟩;simp only[gv,gx];simp
theorem Nms.at{v:AT}(h:Nms M N v l)(h0:0<l.length):∃b rest opn wr,(∀j,j<l.length->vJ 1 j v=some (.pointer (some ⟨b,j,none⟩)))/\b<N/\M b=some (.cells (l.map Value.string++rest) 1 opn wr):=by
 rcases h with⟨rfl,_⟩|⟨b,k,rest,opn,wr,rfl,hb,hm⟩
 ·simp at h0
 ·exact⟨b,rest,opn,wr,λj hj=>by rw[rG hj,Nat.zero_add,Nat.mul_one],hb,hm⟩
theorem vo:∀{vs:List Vo},(vs.map Vo.nm).Nodup->∀v∈vs,gK vs v.nm=some v
 |[],_,v,hv=>by cases hv
 |u::vs,hn,v,hv=>by
  rw[Uc,List.nodup_cons]at hn;unfold gK;rw[List.find?_cons];rcases TG.1 hv with rfl|hv
  ·simp
  ·have:u.nm≠v.nm:=λe=>hn.1 (e▸Us.2 ⟨v,hv,rfl⟩);rw[show decide (u.nm=v.nm)=false from decide_eq_false this];exact vo hn.2 v hv
theorem MW{a b:List Nat}(h:a.Perm b):a.sum=b.sum:=by
 induction h with
 |nil=>rfl
 |cons x _ ih=>simp only[XG,ih]
 |swap x y l=>simp only[XG];omega
 |trans _ _ h1 h2=>exact h1.trans h2
def CE(vs:List Vo)(l:List ByteArray):Nat:=(l.map (CF vs)).sum
theorem EV{vs:List Vo}(hn:(vs.map Vo.nm).Nodup)(hp:l.Perm (vs.map Vo.nm)):CE vs l=jg vs:=by
 unfold CE jg;rw[MW (hp.map (CF vs)),List.map_map]
 congr 1
 refine List.map_congr_left λv hv=>?_;show CF vs v.nm=_;unfold CF;rw[vo hn v hv]
theorem KX{vs:List Vo}{l:List ByteArray}{j:Nat}(h:j<l.length):CE vs (l.take (j+1))=CE vs (l.take j)+CF vs l[j]:=by unfold CE;rw[Th h,List.map_append,List.sum_append];simp
theorem CD{vs:List Vo}(hI:Inv S vs):∀l:List ByteArray,CE vs l<=l.length*65536
 |[]=>by simp[CE]
 |s::l=>by
  have:=CD hI l
  have h1:CF vs s<=65536:=by
   unfold CF;split
   ·rename_i v hv;have h1:=(hI.found hv).r;have h2:=(hI.found hv).n2;unfold ix;omega
   ·omega
  unfold CE at this ⊢;rw[Uc,XG,SA];omega
theorem KY(hU:YUp Y)(hC:me Y){M1:FM}{n1:Nat}{v1:AT}{vs:List Vo}(H1:FamR S M1 n1 cv mv vs)(hI:Inv S vs)(hS:S<=65536)(hn1:n+2<=n1)(e0:M1 n=some (.cells [cv,mv] 0 false true)){z0:Nat}(e1:M1 (n+1)=some (.cells [.int .i64 (z0:Int)] 0 false true))(hp:l.Perm (vs.map Vo.nm))(N1:Nms M1 n1 v1 l)(e6 e8:AT):
  ∀(d j:Nat),j+d=l.length->∀(x1:AT) (M:FM),(∀b,b≠n+1->M b=M1 b)->M (n+1)=some (.cells [.int .i64 (CE vs (l.take j):Int)] 0 false true)->
  Gv (gD PG EL Y xY [.int .i64 (j:Int),x1,.int .i64 (l.length:Int),v1,.func (.func 171) #[] #[.pointer (some ⟨n,0,none⟩),.pointer (some ⟨n+1,0,none⟩)],.pointer (some ⟨n+1,0,none⟩),e6,.pointer (some ⟨n,0,none⟩),e8] M n1) λX e M' N' w=>(∃z1 z2,X=.exit 0/\e=[z1,z2,v1,.func (.func 171) #[] #[.pointer (some ⟨n,0,none⟩),.pointer (some ⟨n+1,0,none⟩)],.pointer (some ⟨n+1,0,none⟩),e6,.pointer (some ⟨n,0,none⟩),e8])/\M' (n+1)=some (.cells [.int .i64 (jg vs:Int)] 0 false true)/\N'=n1/\SL w (bit n)=0:=by
 have on:=N1.one;have hlen:l.length<=32:=by have:=hp.length_eq;rw[SC]at this;rw[this];exact hI.few
 intro d
 induction d with
 |zero=>
  intro j hj x1 M hf hz;refine gA (L:=xY) (b:=sE) rfl ?_;simp only[sE];obtain rfl:j=l.length:=by omega
  rw[UE,EV hI.nm hp]at hz;simp(disch:=omega)only[W_,eu,to];exact⟨⟨_,_,rfl⟩,hz⟩
 |succ d ih=>
  intro j hj x1 M hf hz;obtain⟨b,rest,opn,wr,hi,hb,hm⟩:=N1.at (by omega)
  have hbn:b≠n+1:=λe=>by
   rw[e,e1]at hm;injection hm with hm
   injection hm with _ hm
   cases hm
  have hmM:=(hf b hbn).trans hm;have hg:lC (l.map Value.string++rest) j=some (.string l[j]):=by rw[kD,List.getElem?_append_left (by rw[SC];omega),List.getElem?_map,SH (by omega)];rfl
  obtain⟨v,hv⟩:∃v,gK vs l[j]=some v:=by have:l[j]∈vs.map Vo.nm:=hp.mem_iff.1 (Tb _);obtain⟨v,hv,e⟩:=Us.1 this;exact⟨v,e▸vo hI.nm v hv⟩
  have hs:=KX (vs:=vs) (l:=l) (j:=j) (by omega);have hcl:CF vs l[j]=ix vs v:=by unfold CF;rw[hv]
  have hle:=CD hI (l.take j);rw[List.length_take]at hle;have H:=H1.other (M':=M) e1 (by simp) (by simp) hf;refine gA (L:=xY) (b:=sE) rfl ?_;simp only[sE];simp(disch:=omega)only[W_,eu,to,hi j (by omega),hmM,hg,on,oN,nj];refine fI (LH hU hC H hI hS hv (by omega) (by omega) ((hf n (by omega)).trans e0) hz (by omega)) λv2 M2 n2 r2 w2 ⟨hM2,hn2,g2⟩=>?_;subst hM2 hn2;rw[<-hcl,<-hs];simp(disch:=omega)only[W_,eu,to];exact gR (ih (j+1) (by omega) _ _ (λb hb=>(en _ _ _ _ hb).trans (hf b hb)) (eB _ _ _)) λX e m n w ⟨p1,p2,p3,p4⟩=>⟨p1,p2,p3,(by simp(disch:=omega)only[fB,eS,eR,and_self,g2,p4])⟩
theorem EW(hU:YUp Y)(hC:me Y)(hN:qS Y){vs:List Vo}(h:FamR S m n cv mv vs)(hI:Inv S vs)(hS:S<=65536):Pure (fL PG EL Y 109 [fV cv mv] m n) m n (.int .i64 (jg vs:Int)):=by refine gC e109 rfl rfl ?_;simp only[Q0,fV];have o1:=h.c.one;have o2:=h.m.one;simp(disch:=omega)only[W_,eu,to,o1,o2,dW o1,dW o2,yA];obtain⟨fr,t0,t1⟩:=iu (m:=m) (n:=n) (a:=.cells [cv,mv] 0 false true) (b:=.cells [.int .i64 0] 0 false true);revert fr t0 t1;generalize (If (If m n (some (.cells [cv,mv] 0 false true))) (n+1) (some (.cells [.int .i64 0] 0 false true)):FM)=M0;intro fr t0 t1;have H0:=h.frame (N':=n+2) (by omega) fr;refine fI (hN H0 hI) λv1 M1 n1 r1 w1 ⟨k1,f1,g1,l,hp,N1⟩=>?_;have on:=N1.one;have ln:=N1.len;have e0:=(f1 n (by omega)).trans t0;have e1:=(f1 (n+1) (by omega)).trans t1;have H1:=H0.frame k1 f1;simp(disch:=omega)only[W_,eu,to,on,ln];refine ic (KY hU hC H1 hI hS k1 e0 (z0:=0) e1 hp N1 _ _ l.length 0 (by omega) _ M1 (λ_ _=>rfl) e1) λX e M' N' r w ⟨⟨z1,z2,hX,he⟩,p2,p3,p4⟩=>?_;subst hX he p3;simp(disch:=omega)only[W_,eu,to,p2];exact⟨g1 n (by omega),p4⟩
theorem R9{v:AT}(h:Exs m n v L)(hs:lens L<=1000000)(hB:L.length<=1000000){c:Int}(hc:-100000000<=c/\c<=0)(e4 e5 e6 e7 e8:AT):
  ∀(d j:Nat),j+d=L.length->∀(x2:AT) (M:FM) (N:Nat),n<=N->(∀b,b<n->M b=m b)->
  Gv (gD PG EL Y CX [.int .i64 (c+(lens (L.take j):Int)),.int .i64 (j:Int),x2,.int .i64 (L.length:Int),v,e5,e6,e7,e8] M N) λX e M' N' w=>(∃z1 z2,X=.exit 0/\e=[.int .i64 (c+(lens L:Int)),z1,z2,v,e5,e6,e7,e8])/\SL w (bit n)=0:=by
 have q:=h.gO;have o:=h.one;intro d
 induction d with
 |zero=>
  intro j hj x2 M N hN hf;refine gA (L:=CX) (b:=vf) rfl ?_;simp only[vf];obtain rfl:j=L.length:=by omega
  rw[UE];simp(disch:=omega)only[W_,eu,to];exact⟨_,_,rfl⟩
 |succ d ih=>
  intro j hj x2 M N hN hf;obtain⟨b,rest,opn,wr,hi,hb,hm⟩:=h.at (by omega);have hmM:=(hf b hb).trans hm;obtain⟨c1,c2,c3,c4⟩:=jF (l:=L) (j:=j) rest (by omega);have h1:lens L=lens (L.take j)+lens (L.drop j):=by rw[<-gF,UH]
  rw[Tx (by omega),gH]at h1;have h2:lens (L.take (j+1))=lens (L.take j)+L[j].n:=by rw[Th (by omega),gF,gH,jC,Ve]
  have h3:c+(lens (L.take j):Int)+(L[j].n:Int)=c+(lens (L.take (j+1)):Int):=by rw[h2];omega
  refine gA (L:=CX) (b:=vf) rfl ?_;simp only[vf];simp(disch:=omega)only[W_,eu,to,hi j (by omega),hmM,c1,o,q,h3];exact gR (ih (j+1) (by omega) _ _ _ (by omega) (λk hk=>gJ (by omega) (hf k hk))) λX e m n w ⟨p1,p2⟩=>⟨p1,(by simp(disch:=omega)only[fB,eS,eR,and_self,p2])⟩
theorem Bo{vs:List Vo}(hI:Inv S vs):jg vs<=2097152:=by rw[<-EV hI.nm (XL _)];have h1:=CD hI (vs.map Vo.nm);have h2:=hI.few;rw[SC]at h1;have:vs.length*65536<=32*65536:=Nat.mul_le_mul_right _ h2;omega
theorem IB{w:Nat}(h:SL w (bit k)=0)(hj:j<=k):SL w (bit j)=0:=by
 have h1:=iO h;have e:bit j=2 ^ j:=by simp[bit,Nat.shiftLeft_eq]
 rw[e];show w % 2 ^ j=0;refine Nat.eq_of_testBit_eq λi=>?_;rw[Nat.testBit_mod_two_pow,Nat.zero_testBit];by_cases hi:i<j
 ·rw[h1 i (by omega),UW]
 ·simp[hi]
theorem sO(hU:YUp Y)(hC:me Y)(hN:qS Y)(hY:jf Y){vs:List Vo}(h:FamR S m n cv mv vs)(hI:Inv S vs)(hS:S<=65536):Pure (fL PG EL Y 45 [fV cv mv] m n) m n (.int .i64 (room S vs)):=by
 refine gC e45 rfl rfl ?_;simp only[afb,fV];have o1:=h.c.one;have o2:=h.m.one;simp(disch:=omega)only[W_,eu,to,o1,o2,dW o1,dW o2];have fr:∀b,b<n->(If m n (some (.cells [cv,mv] 0 false true)):FM) b=m b:=λb hb=>gu;have t0:=eB m n (some (.cells [cv,mv] 0 false true));revert fr t0;generalize (If m n (some (.cells [cv,mv] 0 false true)):FM)=M0;intro fr t0;have H0:=h.frame (N':=n+1) (by omega) fr;have hcl:=Bo hI;have hneg:FN .neg (.int .i64 (jg vs:Int))=some (.int .i64 (-(jg vs:Int))):=by show some (Value.int .i64 (mu .i64 (Int.sub 0 (jg vs:Int))))=_;rw[jo,show Int.sub 0 (jg vs:Int)=-(jg vs:Int)from Int.zero_sub _,wrap_i64 (by omega) (by omega)]
 refine fF (EW hU hC hN H0 hI hS) λr1=>?_;simp(disch:=omega)only[W_,eu,to,t0,o1,o2,hneg];refine fI (zr hY H0 hS) λv3 M3 n3 r3 w3 ⟨k3,f3,g3,R,E3,N3,S3⟩=>?_;have ox:=E3.one;have lx:=E3.len;have hfl:(ko S vs).length<=S:=by have:=Um (λs=>(slv vs).count s==0) (Ur S);rw[Wf]at this;exact this
 have hlen:lens R=(ko S vs).length:=by rw[<-S3,iY]
 have hRL:R.length<=lens R:=RL.kP λx hx=>N3.1 x hx;simp(disch:=omega)only[W_,eu,to,ox,lx];have hl0:=R9 (Y:=Y) E3 (by omega) (by omega) (c:=-(jg vs:Int)) (by omega) v3 (.int .i64 (-(jg vs:Int))) (.int .i64 0) (.pointer (some ⟨n,0,none⟩)) (.agg #[cv,mv]) R.length 0 (by omega) (.int .i64 0) M3 n3 (IN _) λ_ _=>rfl;rw[Ww,jC,show -(jg vs:Int)+((0:Nat):Int)=-(jg vs:Int)from Int.add_zero _]at hl0;refine ic hl0 λX e M' N' r w ⟨⟨z1,z2,hX,he⟩,hw⟩=>?_;subst hX he;have hr:-(jg vs:Int)+(lens R:Int)=room S vs:=by rw[hlen,room];omega
 have hw':SL w (bit n)=0:=IB hw (by omega);rw[hr];simp(disch:=omega)only[W_,eu,to];exact⟨g3 n (by omega),hw'⟩
def enE(w h:Int):Int:=if h<w then 11 else 0
theorem rJ(w h:Int)(hb:-1000000000<=w/\w<=1000000000/\-1000000000<=h/\h<=1000000000):Pure (fL PG EL Y 92 [.int .i64 w,.int .i64 h] m n) m n (.int .i64 (enE w h)):=by
 refine gC e92 rfl rfl ?_;simp only[aeM,enE];by_cases c:h<w
 ·rw[if_pos c];simp(disch:=omega)only[W_,eu,to]
 ·rw[if_neg c];simp(disch:=omega)only[W_,eu,to]
theorem xi{vs:List Vo}(hI:Inv S vs)(hS:S<=65536):-2097152<=room S vs/\room S vs<=65536:=by
 have h1:=Bo hI;have hfl:(ko S vs).length<=S:=by have:=Um (λs=>(slv vs).count s==0) (Ur S);rw[Wf]at this;exact this
 unfold room;omega
theorem zI(hU:YUp Y)(hC:me Y)(hN:qS Y)(hY:jf Y){vs:List Vo}(h:FamR S m n cv mv vs)(hI:Inv S vs)(hS:S<=65536){r:Nat}(h1:1<=k)(h2:k<=65536)(h3:r<=k):Pure (fL PG EL Y 34 [fV cv mv,.int .i64 (k:Int),.int .i64 (r:Int)] m n) m n (.int .i64 (enE r (room S vs))):=by refine gC e34 rfl rfl ?_;simp only[afj,fV];have o1:=h.c.one;have o2:=h.m.one;have hrb:=xi hI hS;simp(disch:=omega)only[W_,eu,to,o1,o2,dW o1,dW o2];have H0:=h.frame (N':=n+1) (M':=If m n (some (.cells [cv,mv] 0 false true))) (by omega) λb hb=>gu;refine fF (sO hU hC hN hY H0 hI hS) λr1=>?_;simp(disch:=omega)only[W_,eu,to];refine fF (rJ _ _ (by omega)) λr2=>?_;simp(disch:=omega)only[W_,eu,to]
theorem Ar(hU:YUp Y)(hC:me Y)(hN:qS Y)(hY:jf Y){vs:List Vo}(h:FamR S m n cv mv vs)(hI:Inv S vs)(hS:S<=65536){s:ByteArray}{v:Vo}(hv:gK vs s=some v):Pure (fL PG EL Y 193 [fV cv mv,.string s] m n) m n (.int .i64 (enE ((v.r-ix vs v:Nat):Int) (room S vs))):=by
 have hvo:=hI.found hv;have h1:=hvo.r;have h2:=hvo.n2;have h3:ij vs v.P<=v.P.length:=Vf;have h4:=hvo.len;have h5:ix vs v<=v.r:=by unfold ix;omega
 have hrb:=xi hI hS;refine gC e193 rfl rfl ?_;simp only[Qx,fV];have o1:=h.c.one;have o2:=h.m.one;simp(disch:=omega)only[W_,eu,to,o1,o2,dW o1,dW o2];have fr:∀b,b<n->(If m n (some (.cells [cv,mv] 0 false true)):FM) b=m b:=λb hb=>gu;have t0:=eB m n (some (.cells [cv,mv] 0 false true));have H0:=h.frame (N':=n+1) (by omega) fr;revert fr t0 H0;generalize (If m n (some (.cells [cv,mv] 0 false true)):FM)=M0;intro fr t0 H0;refine fI (pI hU hC H0 hI hS hv) λv1 M1 n1 r1 w1 ⟨k1,f1,g1,hv1⟩=>?_;subst hv1;have e0:=(f1 n (by omega)).trans t0;simp(disch:=omega)only[W_,eu,to,rF];have f2:∀b,b<n1->(If M1 n1 (some (.cells [.string v.nm,.int .i64 (v.n:Int),.int .i64 (v.r:Int),.int .i64 (v.P.length:Int),.int .i64 (ij vs v.P:Int)] 0 false true)):FM) b=M1 b:=λb hb=>gu;have i0:=(f2 n (by omega)).trans e0;have t2:=eB M1 n1 (some (.cells [.string v.nm,.int .i64 (v.n:Int),.int .i64 (v.r:Int),.int .i64 (v.P.length:Int),.int .i64 (ij vs v.P:Int)] 0 false true));have H2:=(H0.frame k1 f1).frame (N':=n1+1) (by omega) f2;refine gS (wK (by omega)) λr2=>?_;have hI1:((v.r:Nat):Int)-((v.r-ij vs v.P:Nat):Int)=((v.r-ix vs v:Nat):Int):=by unfold ix;omega
 have qc:=H2.c.gU;have qm:=H2.m.gU;simp(disch:=omega)only[W_,eu,to,hI1,i0,e0,o1,o2,qc,qm];refine gS (sO hU hC hN hY H2 hI hS) λr3=>?_;simp(disch:=omega)only[W_,eu,to];refine gS (rJ _ _ (by omega)) λr4=>?_;simp(disch:=omega)only[W_,eu,to,g1]
 done
def cx(vs:List Vo)(s i:Nat):Nat:=(Ur i).countP λt=>(slv vs).count (s+t)==1
theorem aa7(vs:List Vo)(s i:Nat):cx vs s (i+1)=cx vs s i+if(slv vs).count (s+i)=1 then 1 else 0:=by unfold cx;rw[List.range_succ,List.countP_append,List.countP_cons,List.countP_nil];simp
theorem aa8(vs:List Vo)(x:Ex):ij vs x.pr=cx vs x.s x.n:=by unfold ij cx Ex.pr;rw[List.countP_map];rfl
theorem cx_le(vs:List Vo)(s i:Nat):cx vs s i<=i:=by
 unfold cx;have:=Vf (p:=λt=>(slv vs).count (s+t)==1) (l:=Ur i)
 rwa [Wf]at this
theorem aak{n fb xb:Nat}{vs:List Vo}(h:FamR S m n cv mv vs)(hS:S<=65536)(hfb:fb<n)(mf:m fb=some (.cells [cv,mv] 0 false true)){x:Ex}(hx:x.s+x.n<=S)(hxb:xb<n)(mx:m xb=some (.cells [.int .i64 (x.a:Int),.int .i64 (x.n:Int),.int .i64 (x.s:Int)] 0 false true)){z:Int}(hz:-1000000<=z/\z<=1000000)(u3 u5 u6 u7 u8 u9 y0 y1 y2 y3 y4 y5 y6 y8 y9 w0 w1:AT):
  ∀(d i:Nat),i+d=x.n->∀(u2:AT),
  Gv (gD PG EL Y xR [.int .i64 (z-(cx vs x.s i:Int)),.int .i64 ((x.s+i:Nat):Int),u2,u3,.pointer (some ⟨xb,0,none⟩),u5,u6,u7,u8,u9,y0,y1,y2,y3,y4,y5,y6,.pointer (some ⟨fb,0,none⟩),y8,y9,w0,w1] m n) λX e M' N' w=>(∃z1 z2,X=.exit 2/\e=[.int .i64 (z-(cx vs x.s x.n:Int)),z1,z2,u3,.pointer (some ⟨xb,0,none⟩),u5,u6,u7,u8,u9,y0,y1,y2,y3,y4,y5,y6,.pointer (some ⟨fb,0,none⟩),y8,y9,w0,w1])/\M'=m/\N'=n/\w=0:=by
 have o1:=h.c.one;have o2:=h.m.one;intro d
 induction d with
 |zero=>
  intro i hi u2;refine gA (L:=xR) (b:=su) rfl ?_;simp only[su];obtain rfl:i=x.n:=by omega
  simp(disch:=omega)only[W_,eu,to,mx];exact⟨_,_,rfl⟩
 |succ d ih=>
  intro i hi u2;have hs:=aa7 vs x.s i;have hle:=cx_le vs x.s i;refine gA (L:=xR) (b:=su) rfl ?_;simp only[su];simp(disch:=omega)only[W_,eu,to,mx,mf,o1,o2];refine fF (zC h hS (s:=x.s+i) (by omega)) λr1=>?_;by_cases c:(slv vs).count (x.s+i)=1
  ·rw[if_pos c]at hs;rw[c];have hI:z-(cx vs x.s i:Int)-1=z-(cx vs x.s (i+1):Int):=by rw[hs];omega
   simp(disch:=omega)only[W_,eu,to,hI];exact gR (ih (i+1) (by omega) _) λX e m n w ⟨p1,p2,p3,p4⟩=>⟨p1,p2,p3,by rw[p4];rfl⟩
  ·rw[if_neg c]at hs;have hI:cx vs x.s i=cx vs x.s (i+1):=by rw[hs];rfl
   simp(disch:=omega)only[W_,eu,to];rw[hI];exact gR (ih (i+1) (by omega) _) λX e m n w ⟨p1,p2,p3,p4⟩=>⟨p1,p2,p3,by rw[p4];rfl⟩
theorem aaj{k:Nat}{lv:AT}{vs:List Vo}(h:FamR S m n cv mv vs)(hS:S<=65536){fb:Nat}(hfb:fb<n)(mf:m fb=some (.cells [cv,mv] 0 false true))(hL:Exs m n lv L)(hx:∀x∈L,1<=x.n/\x.s+x.n<=S)(hk:k<=100000)(hB:lens L<=100000)(hll:L.length<=1000000)(e4 e5 e7 e8 e10 e11 e12 e13:AT):
  ∀(d j:Nat),j+d=L.length->∀(x2:AT) (M:FM) (N:Nat),n<=N->(∀b,b<n->M b=m b)->
  Gv (gD PG EL Y xQ [.int .i64 ((k:Int)-(ij vs (prs (L.take j)):Int)),.int .i64 (j:Int),x2,.int .i64 (L.length:Int),e4,e5,lv,e7,e8,.pointer (some ⟨fb,0,none⟩),e10,e11,e12,e13] M N) λX e M' N' w=>(∃z1 z2,X=.exit 0/\e=[.int .i64 ((k:Int)-(ij vs (prs L):Int)),z1,z2,e4,e5,lv,e7,e8,.pointer (some ⟨fb,0,none⟩),e10,e11,e12,e13])/\SL w (bit n)=0:=by
 have q:=hL.gO;have o:=hL.one;intro d
 induction d with
 |zero=>
  intro j hj x2 M N hN hf;refine gA (L:=xQ) (b:=sr) rfl ?_;simp only[sr];obtain rfl:j=L.length:=by omega
  rw[UE];simp(disch:=omega)only[W_,eu,to];exact⟨_,_,rfl⟩
 |succ d ih=>
  intro j hj x2 M N hN hf;obtain⟨b,rest,opn,wr,hi,hb,hm⟩:=hL.at (by omega);have hmM:=(hf b hb).trans hm;obtain⟨c1,c2,c3,c4⟩:=jF (l:=L) (j:=j) rest (by omega);refine gA (L:=xQ) (b:=sr) rfl ?_;simp only[sr];have hxj:=hx L[j] (Tb _);have he:ij vs (prs (L.take (j+1)))=ij vs (prs (L.take j))+cx vs L[j].s L[j].n:=by rw[Th (by omega),iZ,oY,jq,sQ,List.append_nil,aa8]
  have hel:ij vs (prs (L.take j))<=100000:=by
   have h1:ij vs (prs (L.take j))<=(prs (L.take j)).length:=Vf;have h2:lens L=lens (L.take j)+lens (L.drop j):=by rw[<-gF,UH]
   rw[kR]at h1;omega
  simp(disch:=omega)only[W_,eu,to,hi j (by omega),hmM,c1,o,q];have fx:∀b,b<N->(If M N (some (.cells [.int .i64 (L[j].a:Int),.int .i64 (L[j].n:Int),.int .i64 (L[j].s:Int)] 0 false true)):FM) b=M b:=λb hb=>gu;have t0:=eB M N (some (.cells [.int .i64 (L[j].a:Int),.int .i64 (L[j].n:Int),.int .i64 (L[j].s:Int)] 0 false true));revert fx t0;generalize (If M N (some (.cells [.int .i64 (L[j].a:Int),.int .i64 (L[j].n:Int),.int .i64 (L[j].s:Int)] 0 false true)):FM)=M0;intro fx t0;have hl0:=aak (Y:=Y) (n:=N+1) (h.frame (by omega) λb hb=>(fx b (by omega)).trans (hf b hb)) hS (fb:=fb) (by omega) ((fx fb (by omega)).trans ((hf fb hfb).trans mf)) (x:=L[j]) hxj.2 (xb:=N) (by omega) t0 (z:=(k:Int)-(ij vs (prs (L.take j)):Int)) (by omega) (.pointer (some ⟨N,2,none⟩)) (.agg #[.int .i64 (L[j].a:Int),.int .i64 (L[j].n:Int),.int .i64 (L[j].s:Int)]) (.pointer (some ⟨b,j*3,none⟩)) (.bool true) (.int .i64 ((k:Int)-(ij vs (prs (L.take j)):Int))) (.int .i64 (j:Int)) x2 (.int .i64 (L.length:Int)) e4 e5 lv e7 e8 e10 e11 e12 e13 L[j].n 0 (by omega) (.int .i64 (L[j].s:Int));rw[show(k:Int)-(ij vs (prs (L.take j)):Int)-(cx vs L[j].s 0:Int)=(k:Int)-(ij vs (prs (L.take j)):Int)from Int.sub_zero _,Ve]at hl0;refine ic hl0 λX e M' N' r w ⟨⟨z1,z2,hX,he2⟩,hM,hN2,hw⟩=>?_;subst hX he2;subst hM hN2 hw;have hI:(k:Int)-(ij vs (prs (L.take j)):Int)-(cx vs L[j].s L[j].n:Int)=(k:Int)-(ij vs (prs (L.take (j+1))):Int):=by rw[he];omega
  rw[hI];simp(disch:=omega)only[W_,eu,to];exact gR (ih (j+1) (by omega) _ _ _ (by omega) (λk hk=>(fx k (by omega)).trans (hf k hk))) λX e m n w ⟨p1,p2⟩=>⟨p1,(by simp(disch:=omega)only[fB,eS,eR,and_self,p2])⟩
theorem AO{vs:List Vo}(h:FamR S m n cv mv vs)(hI:Inv S vs)(hS:S<=65536){s:ByteArray}{v:Vo}(hv:gK vs s=some v)(ha:a+k<=v.n):Pure (fL PG EL Y 185 [fV cv mv,.string s,.int .i64 (a:Int),.int .i64 (k:Int)] m n) m n (.tuple #[.int .i64 ((k:Int)-(ij vs (kY a (a+k) v.P):Int)),.int .i64 0]):=by
 have hvo:=hI.found hv;refine gC e185 rfl rfl ?_;simp only[Jf,fV];have o1:=h.c.one;have o2:=h.m.one;simp(disch:=omega)only[W_,eu,to,o1,o2,dW o1,dW o2];have fr:∀b,b<n->(If m n (some (.cells [cv,mv] 0 false true)):FM) b=m b:=λb hb=>gu;have t0:=eB m n (some (.cells [cv,mv] 0 false true));have H0:=h.frame (N':=n+1) (by omega) fr;revert fr t0 H0;generalize (If m n (some (.cells [cv,mv] 0 false true)):FM)=M0;intro fr t0 H0;refine fI (wj H0 hv hvo.n2 ha) λv1 M1 n1 r1 w1 ⟨k1,f1,g1,lv,hv1,E1⟩=>?_;subst hv1;obtain⟨L,E1,V1,P1⟩:=E1;have ol:=E1.one;have ll:=E1.len;simp(disch:=omega)only[W_,eu,to,ol,ll];have hl:lens L<=65536:=by rw[<-kR,P1];have h1:=xt a (a+k) v.P;have h2:=hvo.len;have h3:=hvo.n2;omega
 have hn2:=hvo.n2;have e0:=(f1 n (by omega)).trans t0;have hl1:=aaj (Y:=Y) (k:=k) (H0.frame k1 f1) hS (fb:=n) (by omega) e0 E1 (Bj V1 P1 λp hp=>hvo.sl p (lQ.1 hp).1) (by omega) (by omega) (by have:=vm V1;omega) (.bool false) (.int .i64 0) (.int .i64 0) (.int .i64 0) (.agg #[cv,mv]) (.string s) (.int .i64 (a:Int)) (.int .i64 (k:Int)) L.length 0 (by omega) (.int .i64 0) M1 n1 (IN _) λ_ _=>rfl;rw[Ww,sQ,show(k:Int)-(ij vs []:Int)=(k:Int)from Int.sub_zero _]at hl1;refine ic hl1 λX e M' N' r w ⟨⟨z1,z2,hX,he⟩,hw⟩=>?_;subst hX he;have hw':SL w (bit n)=0:=IB hw (by omega);rw[P1];simp(disch:=omega)only[W_,eu,to];exact⟨g1 n (by omega),hw'⟩
def pG(vs:List Vo)(v:Vo)(a k:Nat):Int:=(k:Int)-(ij vs (kY a (a+k) v.P):Int)
theorem Nq{vs:List Vo}(h:FamR S m n cv mv vs){s:ByteArray}{a k:Nat}(ha:a+k<=65536)(hvn:∀v,gK vs s=some v->v.n<=65536/\v.n<a+k):∃e:Int,e≠0/\Pure (fL PG EL Y 185 [fV cv mv,.string s,.int .i64 (a:Int),.int .i64 (k:Int)] m n) m n (.tuple #[.int .i64 0,.int .i64 e]):=by have o1:=h.c.one;have o2:=h.m.one;have fr:∀b,b<n->(If m n (some (.cells [cv,mv] 0 false true)):FM) b=m b:=λb hb=>gu;have H0:=h.frame (N':=n+1) (by omega) fr;have hr:=yP (Y:=Y) H0 (s:=s) ha hvn;obtain⟨v1,M1,n1,r1,w1,hx,k1,f1,g1,lv,e,hv1,he,ol,_⟩:=hr.some;refine⟨e,he,gC e185 rfl rfl ?_⟩;simp only[Jf,fV];subst hv1;simp only[fV]at hx;simp(disch:=omega)only[W_,eu,to,o1,o2,dW o1,dW o2,hx,ol,he];exact g1 n (by omega)
theorem Aq(hU:YUp Y)(hC:me Y)(hN:qS Y)(hY:jf Y){vs:List Vo}(h:FamR S m n cv mv vs)(hI:Inv S vs)(hS:S<=65536){s:ByteArray}{v:Vo}(hv:gK vs s=some v)(ha:a+k<=v.n):Pure (fL PG EL Y 186 [fV cv mv,.string s,.int .i64 (a:Int),.int .i64 (k:Int)] m n) m n (.int .i64 (enE (pG vs v a k) ((ix vs v:Int)+max 0 (room S vs)))):=by
 have hvo:=hI.found hv;have h1:=hvo.r;have h2:=hvo.n2;have h5:ix vs v<=65536:=by unfold ix;omega
 have hrb:=xi hI hS;have hex:ij vs (kY a (a+k) v.P)<=65536:=by have h1:ij vs (kY a (a+k) v.P)<=(kY a (a+k) v.P).length:=Vf;have h2:=xt a (a+k) v.P;have h3:=hvo.len;omega
 refine gC e186 rfl rfl ?_;simp only[QC,fV];have o1:=h.c.one;have o2:=h.m.one;simp(disch:=omega)only[W_,eu,to,o1,o2,dW o1,dW o2];have fr:∀b,b<n->(If m n (some (.cells [cv,mv] 0 false true)):FM) b=m b:=λb hb=>gu;have t0:=eB m n (some (.cells [cv,mv] 0 false true));have H0:=h.frame (N':=n+1) (by omega) fr;revert fr t0 H0;generalize (If m n (some (.cells [cv,mv] 0 false true)):FM)=M0;intro fr t0 H0;refine fF (AO H0 hI hS hv ha) λr1=>?_;simp(disch:=omega)only[W_,eu,to,t0,o1,o2];refine fF (wJ hU hC H0 hI hS hv) λr2=>?_;simp(disch:=omega)only[W_,eu,to,t0,o1,o2];refine fF (sO hU hC hN hY H0 hI hS) λr3=>?_
 have hmx:mxV (.int .i64 0) (.int .i64 (room S vs))=some (.int .i64 (max 0 (room S vs))):=by
  show some (Value.int .i64 (cond (ltB 0 (room S vs)) (room S vs) 0))=_;rw[lY];by_cases c:0<room S vs
  ·rw[decide_eq_true c,Int.max_eq_right (by omega)];rfl
  ·rw[decide_eq_false c,Int.max_eq_left (by omega)];rfl
 have hb:0<=max 0 (room S vs)/\max 0 (room S vs)<=65536:=by omega
 simp(disch:=omega)only[W_,eu,to,hmx];refine fF (rJ _ _ (by omega)) λr4=>?_;simp(disch:=omega)only[W_,eu,to];rfl
theorem SP.ext{A B:List Pr}(ha:SP A)(hb:SP B)(h:∀p,p∈A↔p∈B):A=B:=by refine List.Perm.eq_of_pairwise (le:=λp q:Pr=>p.1<q.1) (λa b _ _ h1 h2=>absurd h1 (by omega)) ha hb ?_;exact(List.perm_ext_iff_of_nodup ha.nodup hb.nodup).2 h
theorem aat(h:SP P)(b:Nat):kY b (b+1) P=(lk P b).toList.map λz=>(b,z):=by
 refine SP.ext (h.mid _ _) ?_ λp=>?_
 ·cases lk P b with
  |none=>exact .nil
  |some z=>exact List.pairwise_singleton _ _
 ·rw[lQ]
  cases hl:lk P b with
  |none=>simp only[Option.toList_none,Xx,List.not_mem_nil,iff_false];rintro⟨h1,h2,h3⟩;exact sZ.1 hl p h1 (by omega)
  |some z=>
   have hz:=(oU h).1 hl;simp only[Option.toList_some,Uc,Xx,List.mem_singleton];constructor
   ·rintro⟨h1,h2,h3⟩;have hp:p.1=b:=by omega
    have h4:=(oU h (b:=b) (s:=p.2)).2 (by rw[<-hp];exact h1);rw[hl]at h4;injection h4 with h4
    exact Prod.ext hp h4.symm
   ·rintro rfl;exact⟨hz,IN _,Nat.lt_succ_self _⟩
theorem aau(h:SP P){a b c:Nat}(hab:a<=b)(hbc:b<=c):kY a c P=kY a b P++kY b c P:=by
 refine SP.ext (h.mid _ _) ((h.mid _ _).append (h.mid _ _) λp hp q hq=>?_) λp=>?_
 ·have:=lQ.1 hp;have:=lQ.1 hq;omega
 ·rw[Tw,lQ,lQ,lQ];constructor
  ·rintro⟨h1,h2,h3⟩;by_cases hc:p.1<b
   ·exact .inl ⟨h1,h2,hc⟩
   ·exact .inr ⟨h1,by omega,h3⟩
  ·rintro(⟨h1,h2,h3⟩|⟨h1,h2,h3⟩)
   ·exact⟨h1,h2,by omega⟩
   ·exact⟨h1,by omega,h3⟩
def ndS(vs:List Vo)(v:Vo)(b:Nat):Bool:=match lk v.P b with|some z=>(slv vs).count z != 1|none=>true
def ndN(vs:List Vo)(v:Vo)(b d:Nat):Nat:=((TX b d).filter (ndS vs v)).length
theorem nZ(vs:List Vo)(v:Vo)(b d:Nat):ndN vs v b (d+1)=(if ndS vs v b then 1 else 0)+ndN vs v (b+1) d:=by
 unfold ndN;rw[List.range'_succ,List.filter_cons];split
 ·rw[SA];omega
 ·omega
theorem KI{vs:List Vo}{v:Vo}(h:SP v.P)(b:Nat):ij vs (kY b (b+1) v.P)+(if ndS vs v b then 1 else 0)=1:=by
 rw[aat h];unfold ndS
 cases lk v.P b with
 |none=>simp[ij]
 |some z=>by_cases hc:(slv vs).count z=1<;>simp[ij,hc]
theorem xq{vs:List Vo}{v:Vo}(h:SP v.P):∀(d b:Nat),(ndN vs v b d:Int)=pG vs v b d
 |0,b=>by
  have:kY b (b+0) v.P=[]:=by refine List.eq_nil_iff_forall_not_mem.2 λp hp=>?_;have:=lQ.1 hp;omega
  unfold pG;rw[this];rfl
 |d+1,b=>by
  have h1:=KI (vs:=vs) h b;have h2:=xq (vs:=vs) h d (b+1);have h3:=aau h (a:=b) (b:=b+1) (c:=b+(d+1)) (by omega) (by omega);rw[nZ];unfold pG at h2 ⊢;rw[h3,oY,show b+(d+1)=b+1+d by omega];split<;>rename_i hc
  ·rw[if_pos hc]at h1;push_cast;omega
  ·rw[if_neg hc]at h1;push_cast;omega
section
variable(vs:List Vo)(v:Vo)
def plC:Nat->Nat->List Nat->List Ex
 |_,0,_=>[]
 |b,d+1,fr=>if ndS vs v b then⟨b,1,fr.headD 0⟩::plC (b+1) d fr.tail else plC (b+1) d fr
def plW:Nat->Nat->List Nat->List Nat
 |_,0,_=>[]
 |b,d+1,fr=>if ndS vs v b then fr.headD 0::plW (b+1) d fr.tail else(lk v.P b).getD 0::plW (b+1) d fr
theorem Cc:∀(d b:Nat) (fr:List Nat),(plW vs v b d fr).length=d
 |0,_,_=>rfl
 |d+1,b,fr=>by unfold plW;split<;>simp[Cc d]
theorem xj:∀(d b:Nat) (fr:List Nat),(plC vs v b d fr).length=ndN vs v b d
 |0,_,_=>rfl
 |d+1,b,fr=>by
  rw[nZ];unfold plC;split<;>rename_i hc
  ·rw[SA,xj d];omega
  ·rw[xj d];omega
theorem DP:∀(d b:Nat) (fr:List Nat),∀x∈plC vs v b d fr,b<=x.a/\x.a<b+d/\x.n=1/\ndS vs v x.a=true
 |0,_,_,x,hx=>by cases hx
 |d+1,b,fr,x,hx=>by
  unfold plC at hx;split at hx
  ·rename_i hc;rcases TG.1 hx with rfl|hx
   ·dsimp only;exact⟨IN _,by omega,rfl,hc⟩
   ·have:=DP d (b+1) _ x hx;exact⟨by omega,by omega,this.2.2⟩
  ·have:=DP d (b+1) _ x hx;exact⟨by omega,by omega,this.2.2⟩
theorem DO:∀(d b:Nat) (fr:List Nat),fr.length=ndN vs v b d->sL (plC vs v b d fr)=fr
 |0,_,fr,h=>by rw[List.length_eq_zero_iff.1 (show fr.length=0 from h)];rfl
 |d+1,b,fr,h=>by
  rw[nZ]at h;unfold plC;split<;>rename_i hc<;>simp only[hc,if_true,if_false]at h
  ·cases fr with
   |nil=>rw[List.length_nil]at h;omega
   |cons s fr=>rw[SA]at h;rw[iM,List.tail_cons,DO d _ _ (by omega),iz];rfl
  ·exact DO d _ _ (by simpa using h)
theorem Gj:∀(d b:Nat) (fr:List Nat),(plC vs v b d fr).Pairwise λx y=>x.a+x.n<=y.a
 |0,_,_=>.nil
 |d+1,b,fr=>by
  unfold plC;split
  ·refine List.pairwise_cons.2 ⟨λy hy=>?_,Gj d _ _⟩;have:=DP vs v d (b+1) _ y hy;dsimp only;omega
  ·exact Gj d _ _
theorem Gk:∀(d b:Nat) (fr:List Nat),fr.length=ndN vs v b d->∀i,i<d->ndS vs v (b+i)=true->∃z,(plW vs v b d fr)[i]?=some z/\(⟨b+i,1,z⟩:Ex)∈plC vs v b d fr
 |0,_,_,_,i,hi,_=>by omega
 |d+1,b,fr,h,0,hi,hn=>by rw[Ve]at hn ⊢;unfold plW plC;rw[if_pos hn,if_pos hn];exact⟨_,rfl,Tk ..⟩
 |d+1,b,fr,h,i+1,hi,hn=>by
  rw[nZ]at h;rw[show b+(i+1)=b+1+i by omega]at hn ⊢;unfold plW plC;split<;>rename_i hc<;>simp only[hc,if_true,if_false]at h
  ·obtain⟨z,h1,h2⟩:=Gk d (b+1) fr.tail (by rw[List.length_tail];omega) i (by omega) hn;exact⟨z,by rw[UD];exact h1,List.mem_cons_of_mem _ h2⟩
  ·obtain⟨z,h1,h2⟩:=Gk d (b+1) fr (by simpa using h) i (by omega) hn;exact⟨z,by rw[UD];exact h1,h2⟩
theorem Cb:∀(d b:Nat) (fr:List Nat),∀i,i<d->ndS vs v (b+i)=false->(plW vs v b d fr)[i]?=some ((lk v.P (b+i)).getD 0)
 |0,_,_,i,hi,_=>by omega
 |d+1,b,fr,0,hi,hn=>by rw[Ve]at hn ⊢;unfold plW;rw[if_neg (by simp[hn])];rfl
 |d+1,b,fr,i+1,hi,hn=>by
  rw[show b+(i+1)=b+1+i by omega]at hn ⊢;unfold plW;split
  ·rw[UD];exact Cb d (b+1) _ i (by omega) hn
  ·rw[UD];exact Cb d (b+1) _ i (by omega) hn
end
theorem abg:cov xs b=true↔∃p∈prs xs,p.1=b:=by
 unfold cov;rw[List.any_eq_true];constructor
 ·rintro⟨x,hx,h⟩;unfold inX at h;simp only[No,decide_eq_true_eq]at h;exact⟨(b,x.s+(b-x.a)),Uh.2 ⟨x,hx,Ex.iH.2 ⟨h.1,h.2,by dsimp only;omega⟩⟩,rfl⟩
 ·rintro⟨p,hp,rfl⟩;obtain⟨x,hx,hp⟩:=Uh.1 hp;have:=Ex.iH.1 hp;refine⟨x,hx,?_⟩;unfold inX;simp only[No,decide_eq_true_eq];omega
structure PlanOk(S:Nat)(vs:List Vo)(v:Vo)(a k:Nat)(xs:List Ex)(W:List Nat):Prop where
 vl:VL xs
 fre:Fre S vs v xs
 len:((prs xs).length:Int)=pG vs v a k
 own:∀p∈v.P,cov xs p.1=true->(slv vs).count p.2≠1
 few:xs.length<=k
 wl:W.length=k
 wa:∀i z,W[i]?=some z->lk (nN xs v.P) (a+i)=some z
theorem adN{vs:List Vo}{v:Vo}(ho:v.Ok S)(hS:S<=65536)(ha:a+k<=v.n){fr:List Nat}(hl:fr.length=ndN vs v a k)(hn:fr.Nodup)(hf:∀z∈fr,z<S/\(slv vs).count z=0)(hV:VL xs)(hp:prs xs=prs (plC vs v a k fr))(hx:xs.length<=(plC vs v a k fr).length):PlanOk S vs v a k xs (plW vs v a k fr):=by
 have hn2:=ho.n2;have hs:sL xs=fr:=by unfold sL;rw[hp];exact DO vs v k a fr hl
 have hcov:∀b,cov xs b=true->a<=b/\b<a+k/\ndS vs v b=true:=λb hb=>by
  obtain⟨p,h1,rfl⟩:=abg.1 hb;rw[hp]at h1;obtain⟨x,hx,h2⟩:=Uh.1 h1;have h3:=DP vs v k a fr x hx;have h4:=Ex.iH.1 h2;have:p.1=x.a:=by omega
  rw[this];exact⟨h3.1,h3.2.1,h3.2.2.2⟩
 have hk:ndN vs v a k<=k:=by
  have:=Um (ndS vs v) (TX a k)
  rwa [List.length_range']at this
 refine⟨hV,⟨λx hx=>?_,by rw[hs];exact hn,λz hz=>(hf z (hs▸hz)).2⟩,?_,λp hp hc=>?_,by rw[xj]at hx;omega,Cc _ _ _ _ _,λi z hz=>?_⟩
 ·have hok:=hV.1 x hx;have h1:cov xs (x.a+(x.n-1))=true:=by unfold cov;rw[List.any_eq_true];refine⟨x,hx,?_⟩;unfold Ex.ok at hok;unfold inX;simp only[No,decide_eq_true_eq];omega
  have h2:=hcov _ h1;have h3:x.s+(x.n-1)∈sL xs:=tN.2 ⟨x,hx,by unfold Ex.ok at hok;omega,by unfold Ex.ok at hok;omega⟩;have h4:=(hf _ (hs▸h3)).1;unfold Ex.ok at hok;exact⟨hok,by omega,by omega⟩
 ·rw[hp,kR,<-iY,DO vs v k a fr hl,hl];exact xq ho.sp k a
 ·have h1:=(hcov _ hc).2.2;unfold ndS at h1;rw[(oU ho.sp).2 hp]at h1;simpa using h1
 ·have hi:i<k:=by
   have:=(List.getElem?_eq_some_iff.1 hz).1
   rwa [Cc]at this
  refine(oU (wO ho.sp)).2 ((vS hV ho.sp).mem_iff.2 (Tw.2 ?_))
  cases hnd:ndS vs v (a+i)with
  |true=>
   obtain⟨z',h1,h2⟩:=Gk vs v k a fr hl i hi hnd;rw[hz]at h1;injection h1 with h1
   subst h1;refine .inl ?_;rw[hp];exact Uh.2 ⟨_,h2,Ex.iH.2 ⟨IN _,by dsimp only;omega,by dsimp only⟩⟩
  |false=>
   rw[Cb vs v k a fr i hi hnd]at hz;injection hz with hz
   have hnd2:=hnd;unfold ndS at hnd;refine .inr (TY.2 ⟨?_,?_⟩)
   ·cases hl2:lk v.P (a+i)with
    |none=>rw[hl2]at hnd;simp at hnd
    |some z'=>rw[hl2]at hz;rw[<-hz];exact(oU ho.sp).1 hl2
   ·cases hc:cov xs (a+i)with
    |false=>rfl
    |true=>rw[(hcov _ hc).2.2]at hnd2;cases hnd2
theorem J3{vs:List Vo}(h:Inv S vs){s:ByteArray}{v:Vo}(hv:gK vs s=some v){W:List Nat}(hP:PlanOk S vs v a k xs W)(hr:0<=room S vs)(hn:pG vs v a k<=ix vs v+room S vs):0<=room S (iG ⟨s,v.n,v.r,nN xs v.P⟩ vs):=by have ht:=LC h hv hP.vl hP.fre;refine ht.Gf (λp hp=>?_) hr (by rw[hP.len];exact hn);obtain⟨h1,h2⟩:=TY.1 hp;have h3:=hP.own p h1 h2;have h4:=vv hv (j7.2 ⟨p,h1,rfl⟩);omega
theorem Inv.nN{s:ByteArray}:∀{xs:List Ex} {vs:List Vo} {v:Vo},Inv S vs->gK vs s=some v->Fre S vs v xs->Inv S (iG ⟨s,v.n,v.r,nN xs v.P⟩ vs)
 |[],vs,v,h,hv,hF=>by obtain⟨A,B,rfl,h1,hA⟩:=jj hv;rw[nR (v:=v) (w:=⟨s,v.n,v.r,CR.nN [] v.P⟩) h1 λa ha=>hA a ha];rw[<-h1,show CR.nN [] v.P=v.P from rfl];exact h
 |x::xs,vs,v,h,hv,hF=>by have hx:=hF.ok x (Tk ..);have h1:=h.assign hv hx.2.1 hx.2.2 λz hz=>hF.fr z (by rw[iM];exact List.mem_append_left _ hz);have h2:=Inv.nN (xs:=xs) h1 (sH hv rfl) (Fre.step h hv hF);have e:=vk (w:=⟨s,v.n,v.r,asg x v.P⟩) (w':=⟨s,v.n,v.r,CR.nN xs (asg x v.P)⟩) rfl vs;dsimp only at h2;rw[e]at h2;exact h2
def II(c:Nat):Bool:=(Tj 97 c&&Tj c 122) || (Tj 48 c&&Tj c 57)
def tT:ByteArray:=⟨#[97,98,99,100,101,102,103,104,105,106,107,108,109,110,111,112,113,114,115,116,117,118,119,120,121,122,48,49,50,51,52,53,54,55,56,57]⟩
def Rg(s:ByteArray)(a b:Nat):Prop:=∀i,a<=i->i<b->II (bt s i)=true
def nK(Y:Nat->List AT->FM->Nat->OR FM):Prop:=∀(m:FM) (n:Nat) (s:ByteArray),s.size<=16->∃r:ByteArray,(r=⟨#[]⟩↔Rg s 0 s.size)/\Pure (Y 116 [.string s,.string tT] m n) m n (.string r)
def j5(s:ByteArray):Prop:=1<=s.size/\s.size<=16/\(97<=bt s 0/\bt s 0<=122)/\Rg s 0 s.size
open Classical in
noncomputable def kH(s:ByteArray):Bool:=decide (j5 s)
open Classical in
theorem iN{s:ByteArray}(h:j5 s):kH s=true:=by unfold kH;exact decide_eq_true h
open Classical in
theorem mz{s:ByteArray}(h:¬j5 s):kH s=false:=by unfold kH;exact decide_eq_false h
open Classical in
theorem iD(hT:nK Y)(m:FM)(n:Nat)(s:ByteArray)(hl:s.size<=9223372036854775807):
  Pure (fL PG EL Y 50 [.string s] m n) m n (.bool (kH s)):=by
 refine gC e50 rfl rfl ?_;simp only[ae9];by_cases c1:s.size=0
 ·rw[mz λh=>by have:=h.1;omega];simp(disch:=omega)only[W_,eu,to,STs,c1]
 by_cases c2:16<s.size
 ·rw[mz λh=>by have:=h.2.1;omega];simp(disch:=omega)only[W_,eu,to,STs]
 by_cases c3:bt s 0<97
 ·rw[mz λh=>by have:=h.2.2.1.1;omega];simp(disch:=omega)only[W_,eu,to,STs]
 by_cases c4:122<bt s 0
 ·rw[mz λh=>by have:=h.2.2.1.2;omega];simp(disch:=omega)only[W_,eu,to,STs]
 obtain⟨r,hr,hP⟩:=hT m n s (by omega);rw[<-kU (P:=PG) (Y:=Y) e116]at hP;simp(disch:=omega)only[W_,eu,to,STs];refine fF hP λr1=>?_;have:kH s=decide (r=⟨#[]⟩):=by unfold kH;exact decide_eq_decide.2 ⟨λh=>hr.2 h.2.2.2,λh=>⟨by omega,by omega,⟨by omega,by omega⟩,hr.1 h⟩⟩
 rw[this];simp(disch:=omega)only[W_,eu,to,STs]
theorem j5.ok{s:ByteArray}(h:j5 s):nameOk s:=by
 obtain⟨h1,h2,h3,h4⟩:=h;refine⟨h1,h2,λi hi=>?_⟩;have hb:bt s i=s[i].toNat:=by unfold bt;rw[List.getD_eq_getElem?_getD,SH (by rw[H7];exact hi)];rfl
 have h5:=h4 i (Tq _) hi;unfold II at h5;simp only[Bool.or_eq_true,No,Nat.ble_eq]at h5;rw[<-hb];rcases h5 with h5|h5
 ·exact .inl h5
 ·refine .inr ⟨?_,h5⟩;rcases Nat.eq_zero_or_pos i with rfl|h6
  ·omega
  ·exact h6
end Go.Am.CR
namespace Go.Am
open Go
section
variable{P:SZ}
def pN(d:Nat)(e:TypeId)(xs ys:Array AT):List Nat->Sem Bool
 |[]=>pure true
 |i::is=>do
  let a <-part e xs (i*1)
  let b <-part e ys (i*1)
  let r <-Op.equalIn d e a b
  if(!r)=true then pure false else pN d e xs ys is
theorem J1{e n:Nat}(h:pn P e n=true):gM P (sizeOf e)=some n:=by obtain⟨i,hi,hs⟩:=kf h;unfold sizeOf typeInfo;rw[jd,jd,pZ,Option.bind_some,hi];show some i.size=some n;rw[hs]
theorem yR(d:Nat){t e:TypeId}{n:Nat}(xs ys:Array AT)(hu:P.underlying t=some (.array n e))(hi:pn P e 1=true):
  gM P (Op.equalIn (d+1) t (.agg xs) (.agg ys))=gM P (pN d e xs ys (TX 0 n)):=by
 simp only[Op.equalIn,jd,jX hu,J1 hi,Option.bind_some];simp only[Std.Legacy.Range.forIn_eq_forIn_range',Std.Legacy.Range.size,Nat.sub_zero,Nat.add_one_sub_one,Nat.div_one];generalize TX 0 n=is
 induction is with
 |nil=>rfl
 |cons j is ih=>
  simp only[List.forIn_cons,pN,jd]
  cases gM P (part e xs (j*1))with
  |none=>rfl
  |some a=>
   simp only[Option.bind_some]
   cases gM P (part e ys (j*1))with
   |none=>rfl
   |some b=>
    simp only[Option.bind_some]
    cases gM P (Op.equalIn d e a b)with
    |none=>rfl
    |some r=>
     cases r
     ·rfl
     ·exact ih
theorem DL{d:Nat}{e:TypeId}{asl bs:List Int}(hu:P.underlying e=some (.int .u8)):∀(k j:Nat),asl.length=j+k->bs.length=j+k->
  gM P (pN (d+1) e (asl.map (Value.int .u8)).toArray (bs.map (Value.int .u8)).toArray (TX j k))=some (decide (asl.drop j=bs.drop j))
 |0,j,ha,hb=>by rw[XU (by omega),XU (by omega)];rfl
 |k+1,j,ha,hb=>by
  have hai:j<asl.length:=by omega
  have hbi:j<bs.length:=by omega
  have ih:=DL (d:=d) (asl:=asl) (bs:=bs) hu k (j+1) (by omega) (by omega);rw[List.range'_succ,pN,jd,Io hu (v:=.int .u8 asl[j]) (by simp[hai]),Option.bind_some,jd,Io hu (v:=.int .u8 bs[j]) (by simp[hbi]),Option.bind_some,jd,Ca hu,Option.bind_some];rw[Tx hai,Tx hbi];by_cases he:asl[j]=bs[j]
  ·have hb2:(!(asl[j]==bs[j]))=false:=by simp[he]
   rw[hb2];show gM P (pN (d+1) e _ _ (TX (j+1) k))=_;rw[ih]
   congr 1
   rw[he];simp only[Wm,true_and]
  ·have hb2:(!(asl[j]==bs[j]))=true:=by simp[he]
   rw[hb2];show some false=_;simp only[Wm,he,false_and,decide_false]
def Hx(P:SZ)(t n e:Nat):Bool:=(match P.underlying t with|some (.array k f)=>k==n&&f==e|_=>false)&&(match P.underlying e with|some (.int .u8)=>true|_=>false)&&pn P e 1&&!P.eqGuardType P.depth t
theorem DN{t n e:Nat}(h:Hx P t n e=true)(op:BinOp)(hop:op=.eql\/op=.neq){asl bs:List Int}(ha:asl.length=n)(hb:bs.length=n):
  nk P op t (.agg (asl.map (Value.int .u8)).toArray) (.agg (bs.map (Value.int .u8)).toArray)=some (.bool (match op with | .neq=>!decide (asl=bs)|_=>decide (asl=bs))):=by
 rw[Hx,No,No,No]at h;obtain⟨⟨⟨h1,h2⟩,h3⟩,h5⟩:=h
 have hu:P.underlying t=some (.array n e):=by
  split at h1
  ·rename_i k f hk;simp only[No,beq_iff_eq]at h1;rw[hk,h1.1,h1.2]
  ·cases h1
 have he:P.underlying e=some (.int .u8):=by
  split at h2
  ·assumption
  ·cases h2
 have hg:P.eqGuardType P.depth t=false:=by simpa using h5
 have hfree:∀l:List Int,gy (.agg (l.map (Value.int .u8)).toArray)=true:=λl=>by show(l.map (Value.int .u8)).all Am.flat=true;rw[XV,Tv];intro x _;rfl
 have e2:gM P (Op.equal t (.agg (asl.map (Value.int .u8)).toArray) (.agg (bs.map (Value.int .u8)).toArray))=some (decide (asl=bs)):=by show gM P (Op.equalIn (9999+1) t _ _)=_;rw[yR _ _ _ hu h3];have:=DL (P:=P) (d:=9998) (asl:=asl) (bs:=bs) he n 0 (by omega) (by omega);simpa using this
 have e1:∀op,op=.eql\/op=.neq->gM P (eqGuard op t (.tmp 0) (.tmp 0) (.agg (asl.map (Value.int .u8)).toArray) (.agg (bs.map (Value.int .u8)).toArray))=some ():=by
  intro op ho
  have:gM P (program >>= λp=>program >>= λq=>if(!p.eqGuardType q.depth t)=true then pure ()else(do if<-Op.eqGuardIn Op.maxDepth t (.agg (asl.map (Value.int .u8)).toArray) (.agg (bs.map (Value.int .u8)).toArray)then unsupported (.noEntry "binop/eql: two nil values of an interface type with methods, in a part of a struct or an array")))=some ():=by rw[jd,pZ,Option.bind_some,jd,pZ,Option.bind_some,hg];rfl
  rcases ho with rfl|rfl<;>exact this
 show cond (gy _&&gy _&&uv _) (oX (gM P _)) none=_;rw[hfree,hfree];show oX (gM P (do eqGuard op t (.tmp 0) (.tmp 0) (.agg _) (.agg _);binOp op t (.agg _) (.agg _)))=_;rw[jd,e1 op hop,Option.bind_some];rcases hop with rfl|rfl
 ·show oX (gM P (Op.equal t (.agg _) (.agg _) >>= λr=>pure (.bool r)))=_;rw[jd,e2];rfl
 ·show oX (gM P (Op.equal t (.agg _) (.agg _) >>= λr=>pure (.bool (!r))))=_;rw[jd,e2];rfl
end
variable{P:SZ}
end Go.Am
namespace Go.Am.CR
set_option maxRecDepth 100000
open Go Go.Am
variable{Y:Nat->List AT->FM->Nat->OR FM}
variable{v:AT}{n:Nat}{m:FM}{l:List Int}{Q:AX->List AT->FM->Nat->Nat->Prop}
structure Cmd where
 tag:Int
 kind:Int
 ord:Int
 force:Bool
 vol:ByteArray
 oth:ByteArray
 at_:Int
 len:Int
 data:List (List Int)
def Cmd.cells(c:Cmd)(d:AT):List AT:=[.int .i64 c.tag,.int .i64 c.kind,.int .i64 c.ord,.bool c.force,.string c.vol,.string c.oth,.int .i64 c.at_,.int .i64 c.len,d]
def jx(c:Cmd)(d:AT):AT:=.agg #[.int .i64 c.tag,.int .i64 c.kind,.int .i64 c.ord,.bool c.force,.string c.vol,.string c.oth,.int .i64 c.at_,.int .i64 c.len,d]
structure Cmd.Fit(c:Cmd):Prop where
 tag:-9223372036854775808<=c.tag/\c.tag<9223372036854775808
 kind:-9223372036854775808<=c.kind/\c.kind<9223372036854775808
 ord:-9223372036854775808<=c.ord/\c.ord<9223372036854775808
 at_:-9223372036854775808<=c.at_/\c.at_<9223372036854775808
 len:-9223372036854775808<=c.len/\c.len<9223372036854775808
 vol:c.vol.size<=9223372036854775807
 oth:c.oth.size<=9223372036854775807
 data:c.data.length<=9223372036854775807
def u8s(l:List Int):List AT:=l.map (Value.int .u8)
def jn(m:FM)(n:Nat)(v:AT)(ds:List (List Int)):Prop:=∃a c,v=.slice a ds.length c/\iW n v=true/\(ds=[]\/∃b o cs opn wr,a=some ⟨b,o,none⟩/\b<n/\m b=some (.cells cs 8 opn wr)/\∀i (h:i<ds.length),ds[i].length=8/\je cs (o+i*8) 8=some (u8s ds[i]))
theorem jn.len{ds:List (List Int)}(h:jn m n v ds):qR false v=some (.int .i64 (ds.length:Int)):=by obtain⟨a,c,rfl,_⟩:=h;rfl
theorem jn.one{ds:List (List Int)}(h:jn m n v ds):Am.one v=true:=by obtain⟨a,c,rfl,_⟩:=h;rfl
theorem jn.bel{ds:List (List Int)}(h:jn m n v ds)(k:Nat)(hk:n<=k):iW k v=true:=by
 obtain⟨a,c,rfl,hb,_⟩:=h
 cases a with
 |none=>exact hb
 |some a=>exact gI (show a.block<k from Nat.lt_of_lt_of_le (Nat.le_of_ble_eq_true hb) hk)
theorem jn.frame{m':FM}{n':Nat}{ds:List (List Int)}(h:jn m n v ds)(hn:n<=n')(hf:∀b,b<n->m' b=m b):jn m' n' v ds:=by
 have hb:=h.bel n' hn;obtain⟨a,c,rfl,_,h⟩:=h;refine⟨a,c,rfl,hb,?_⟩;rcases h with h|⟨b,o,cs,opn,wr,h1,h2,h3,h4⟩
 ·exact .inl h
 ·exact .inr ⟨b,o,cs,opn,wr,h1,by omega,(hf b h2).trans h3,h4⟩
theorem jn.nil(m:FM)(n:Nat):jn m n (.slice none 0 0) []:=⟨none,0,rfl,rfl,.inl rfl⟩
theorem jn.at{ds:List (List Int)}(h:jn m n v ds){i:Nat}(hi:i<ds.length):
  ∃b o cs opn wr,vJ 8 i v=some (.pointer (some ⟨b,o,none⟩))/\b<n/\m b=some (.cells cs 8 opn wr)/\ds[i].length=8/\lS (nI cs o) 8=some (u8s ds[i]):=by
 obtain⟨a,c,rfl,_,h⟩:=h;rcases h with rfl|⟨b,o,cs,opn,wr,rfl,h2,h3,h4⟩
 ·simp at hi
 ·exact⟨b,o+i*8,cs,opn,wr,rG hi,h2,h3,h4 i hi⟩
def iF(a l:Int):Prop:=0<=a/\1<=l/\a<=65536/\l<=65536/\a+l<=65536
instance (a l:Int):Decidable (iF a l):=by unfold iF;infer_instance
theorem jR(m:FM)(n:Nat)(a l:Int)(ha:-9223372036854775808<=a/\a<9223372036854775808)(hl:-9223372036854775808<=l/\l<9223372036854775808):
  Pure (fL PG EL Y 51 [.int .i64 a,.int .i64 l] m n) m n (.bool (decide (iF a l))):=by
 refine gC e51 rfl rfl ?_;simp only[ae8];by_cases c1:a<0
 ·rw[decide_eq_false (show¬iF a l from λh=>by have:=h.1;omega)];simp(disch:=omega)only[W_,eu,to]
 by_cases c2:l<1
 ·rw[decide_eq_false (show¬iF a l from λh=>by have:=h.2.1;omega)];simp(disch:=omega)only[W_,eu,to]
 by_cases c3:65536<a
 ·rw[decide_eq_false (show¬iF a l from λh=>by have:=h.2.2.1;omega)];simp(disch:=omega)only[W_,eu,to]
 have:decide (iF a l)=decide (l<=65536-a):=decide_eq_decide.2 ⟨λh=>by have:=h.2.2.2.2;omega,λh=>⟨by omega,by omega,by omega,by omega,by omega⟩⟩;rw[this];simp(disch:=omega)only[W_,eu,to]
def wq(c:Cmd):Cmd:={tag:=c.tag,kind:=c.kind,ord:=c.ord,force:=false,vol:=⟨#[]⟩,oth:=⟨#[]⟩,at_:=0,len:=0,data:=[]}
theorem lm(m:FM)(n:Nat)(c:Cmd)(d:AT)(hd:one d=true):
  Pure (fL PG EL Y 49 [jx c d] m n) m n (jx (wq c) (.slice none 0 0)):=by
 refine gC e49 rfl rfl ?_;simp only[ae',jx,wq];simp(disch:=omega)only[W_,eu,to]
theorem t51:Hx PG 24 8 5=true:=by kernel_rfl
theorem acF{a b:List Int}(ha:a.length=8)(hb:b.length=8):nk PG .neq 24 (.agg (u8s a).toArray) (.agg (u8s b).toArray)=some (.bool (!decide (a=b))):=DN t51 .neq (.inr rfl) ha hb
theorem lO(h:l.length=8):kO (u8s l)=8:=by rw[xw,u8s,SC,h]
theorem li(l:List Int):(u8s l).all one=true:=by rw[u8s,XV,Tv];intro x _;rfl
theorem Bm:∀(zs cs:List AT),zs.length=cs.length->cover cs zs=some cs
 |[],[],_=>rfl
 |z::zs,c::cs,h=>by show nH c (cover cs zs)=_;rw[Bm zs cs (by simpa using h)];rfl
 |[],_::_,h=>by simp at h
 |_::_,[],h=>by simp at h
theorem oK(h:l.length=8):cover (u8s l) [.int .u8 0,.int .u8 0,.int .u8 0,.int .u8 0,.int .u8 0,.int .u8 0,.int .u8 0,.int .u8 0]=some (u8s l):=by exact Bm _ _ (by rw[u8s,SC,h];rfl)
theorem oL(h:l.length=8):lS (u8s l) 8=some (u8s l):=by rw[jT,if_pos (by rw[u8s,SC,h];exact IN _),Va (by rw[u8s,SC,h];exact IN _)]
theorem ua(l:List Int)(k:Nat):(u8s l).all (jz k)=true:=by rw[u8s,XV,Tv];intro x _;rfl
theorem Nx(a b c:Nat):OF (OF a b) c=OF a (OF b c):=Nat.or_assoc a b c
theorem RV(m0:FM)(n0 pa pb:Nat)(c d:Cmd)(cd dd:AT)(hpa:pa<n0)(hpb:pb<n0)(hA:m0 pa=some (.cells (c.cells cd) 0 false true))(hB:m0 pb=some (.cells (d.cells dd) 0 false true))
  (hc:jn m0 n0 cd c.data) (hd:jn m0 n0 dd d.data) (hl:d.data.length=c.data.length) (hs:c.data.length<=9223372036854775807) (x9 x10:AT)
  (hQt:c.data=d.data->∀x0 x1 x2 x3 x4 x5 M N w,n0<=N->(∀b,b<n0->M b=m0 b)->SL w (bit n0)=0->Q (.exit 0) [x0,x1,x2,x3,x4,x5,.pointer (some ⟨pb,0,none⟩),.pointer (some ⟨pa,0,none⟩),x9,x10] M N w)
  (hQf:c.data≠d.data->∀e' M N w,n0<=N->(∀b,b<n0->M b=m0 b)->SL w (bit n0)=0->Q (.ret (.bool false)) e' M N w):∀k j,j+k=c.data.length->c.data.take j=d.data.take j->∀(m:FM) (n:Nat) (w0:Nat),n0<=n->(∀b,b<n0->m b=m0 b)->SL w0 (bit n0)=0->∀x0 x2 x5 x6:AT,
  Gv (gD PG EL Y zX [x0,.int .i64 (j:Int),x2,.int .i64 (c.data.length:Int),cd,x5,x6,.pointer (some ⟨pb,0,none⟩),.pointer (some ⟨pa,0,none⟩),x9,x10] m n) λX e M N w=>Q X e M N (OF w0 w):=by
 intro k
 induction k with
 |zero=>intro j hj ht m n w0 hn hf hw x0 x2 x5 x6;refine gA (L:=zX) (b:=vd) rfl ?_;simp only[vd];simp(disch:=omega)only[W_,eu,to];refine hQt ?_ _ _ _ _ _ _ _ _ _ hn hf hw;rw[<-Va (show c.data.length<=j by omega),ht,Va (show d.data.length<=j by omega)]
 |succ k ih=>
  intro j hj ht m n w0 hn hf hw x0 x2 x5 x6;have hjc:j<c.data.length:=by omega
  have hjd:j<d.data.length:=by omega
  obtain⟨b1,o1,cs1,p1,q1,i1,i2,i3,i4,i5⟩:=hc.at hjc;obtain⟨b2,o2,cs2,p2,q2,g1,g2,g3,g4,g5⟩:=hd.at hjd;refine gA (L:=zX) (b:=vd) rfl ?_;simp only[vd];by_cases he:c.data[j]=d.data[j]
  ·have hne:(!decide (c.data[j]=d.data[j]))=false:=by rw[decide_eq_true he];rfl
   simp(disch:=omega)only[W_,eu,to,i1,hf,i3,i5,lO i4,li,oK i4,oL i4,hB,Cmd.cells,g1,g3,g5,acF i4 g4,hd.bel,ua,Bool.and_self,hne];have ht':c.data.take (j+1)=d.data.take (j+1):=by rw[Th hjc,Th hjd,ht,he]
   refine Rk ((ih (j+1) (by omega) ht' (If m n (some (.cells (u8s c.data[j]) 0 false true)):FM) (n+1) (OF w0 (OF (bit n) (bit n))) (by omega) (λb hb=>?_) ?_ _ _ _ _).mono λX e m n w hq=>?_)
   ·simp(disch:=omega)only[W_,eu,to,hf]
   ·simp(disch:=omega)only[W_,eu,to,hw]
   ·rw[Nx]at hq;exact hq
  ·have hne:(!decide (c.data[j]=d.data[j]))=true:=by rw[decide_eq_false he];rfl
   simp(disch:=omega)only[W_,eu,to,i1,hf,i3,i5,lO i4,li,oK i4,oL i4,hB,Cmd.cells,g1,g3,g5,acF i4 g4,hd.bel,ua,Bool.and_self,hne];refine hQf (λh=>he ?_) _ _ _ _ (by omega) (λb hb=>?_) ?_
   ·simp only[h]
   ·simp(disch:=omega)only[W_,eu,to,hf]
   ·simp(disch:=omega)only[W_,eu,to,hw]
theorem adv(m0:FM)(n0 pa pb:Nat)(c d:Cmd)(cd dd:AT)(hpa:pa<n0)(hpb:pb<n0)(hA:m0 pa=some (.cells (c.cells cd) 0 false true))(hB:m0 pb=some (.cells (d.cells dd) 0 false true))
  (hc:jn m0 n0 cd c.data) (hd:jn m0 n0 dd d.data) (hl:d.data.length=c.data.length) (hs:c.data.length<=9223372036854775807) (x0 x2 x5 x6 x9 x10:AT)
  (hQt:c.data=d.data->∀x0 x1 x2 x3 x4 x5 M N w,n0<=N->(∀b,b<n0->M b=m0 b)->SL w (bit n0)=0->Q (.exit 0) [x0,x1,x2,x3,x4,x5,.pointer (some ⟨pb,0,none⟩),.pointer (some ⟨pa,0,none⟩),x9,x10] M N w)
  (hQf:c.data≠d.data->∀e' M N w,n0<=N->(∀b,b<n0->M b=m0 b)->SL w (bit n0)=0->Q (.ret (.bool false)) e' M N w):
  Gv (gD PG EL Y zX [x0,.int .i64 0,x2,.int .i64 (c.data.length:Int),cd,x5,x6,.pointer (some ⟨pb,0,none⟩),.pointer (some ⟨pa,0,none⟩),x9,x10] m0 n0) Q:=
 (RV m0 n0 pa pb c d cd dd hpa hpb hA hB hc hd hl hs x9 x10 hQt hQf c.data.length 0 (by omega) (by rw[Ww,Ww]) m0 n0 0 (IN _) (λb hb=>rfl) (eR _) x0 x2 x5 x6).mono λX e M N w hq=>by simpa only[j']using hq
def nT(c d:Cmd):Bool:=decide (c.data=d.data)&&(decide (c.tag=d.tag)&&(decide (c.kind=d.kind)&&(decide (c.ord=d.ord)&&(decide (c.force=d.force)&&(decide (c.vol=d.vol)&&(decide (c.oth=d.oth)&&(decide (c.at_=d.at_)&&decide (c.len=d.len))))))))
theorem mo(t:Nat)(ht:PG.underlying t=some .bool)(a b:Bool):nk PG .eql t (.bool a) (.bool b)=some (.bool (decide (a=b))):=by
 show oX (gM PG (do eqGuard .eql t (.tmp 0) (.tmp 0) (.bool a) (.bool b);binOp .eql t (.bool a) (.bool b)))=_;rw[jd];show oX (gM PG (Op.equal t (.bool a) (.bool b) >>= λr=>pure (.bool r)))=_;rw[jd];have:gM PG (Op.equal t (.bool a) (.bool b))=some (a==b):=by show gM PG (Op.equalIn (9999+1) t _ _)=_;unfold Op.equalIn;rw[jd,jX ht];rfl
 rw[this];cases a<;>cases b<;>rfl
theorem t4:PG.underlying 4=some .bool:=by kernel_rfl
theorem mL(m:FM)(n:Nat)(c d:Cmd)(cd dd:AT)(hc:jn m n cd c.data)(hd:jn m n dd d.data)(hs:c.data.length<=9223372036854775807)(hs':d.data.length<=9223372036854775807):
  Pure (fL PG EL Y 52 [jx c cd,jx d dd] m n) m n (.bool (nT c d)):=by
 refine gC e52 rfl rfl ?_;simp only[ae7,jx];by_cases h0:c.data.length=d.data.length
 ·simp(disch:=omega)only[W_,eu,to,hc.one,hd.one,hc.len,hd.len];have hc':jn (If (If m n (some (.cells (c.cells cd) 0 false true))) (n+1) (some (.cells (d.cells dd) 0 false true)):FM) (n+2) cd c.data:=hc.frame (by omega) λb hb=>by rw[en _ _ _ _ (by omega),en _ _ _ _ (by omega)]
  have hd':jn (If (If m n (some (.cells (c.cells cd) 0 false true))) (n+1) (some (.cells (d.cells dd) 0 false true)):FM) (n+2) dd d.data:=hd.frame (by omega) λb hb=>by rw[en _ _ _ _ (by omega),en _ _ _ _ (by omega)]
  refine acY (adv (If (If m n (some (.cells (c.cells cd) 0 false true))) (n+1) (some (.cells (d.cells dd) 0 false true)):FM) (n+2) n (n+1) c d cd dd (by omega) (by omega) (by rw[en _ _ _ _ (by omega)];exact eB _ _ _) (eB _ _ _) hc' hd' h0.symm hs _ _ _ _ _ _ (λhdat x0 x1 x2 x3 x4 x5 M N w h1 h2 h3 r1=>?_) (λhdat e' M N w h1 h2 h3 r1=>?_))
  ·have hMa:M n=some (.cells (c.cells cd) 0 false true):=by rw[h2 n (by omega),en _ _ _ _ (by omega)];exact eB _ _ _
   have hMb:M (n+1)=some (.cells (d.cells dd) 0 false true):=by rw[h2 (n+1) (by omega)];exact eB _ _ _
   have hw:SL w (bit n)=0:=jE h3 (by omega);have hd0:=decide_eq_true hdat;unfold nT;by_cases e0:c.tag=d.tag
   case neg=>simp only[hd0,decide_eq_false e0,UT,Vg,UW];simp(disch:=omega)only[W_,eu,to,hMa,hMb,Cmd.cells,hw,mo 4 t4,STs,decide_eq_false e0]
   by_cases e1:c.kind=d.kind
   case neg=>simp only[hd0,decide_eq_true e0,decide_eq_false e1,UT,Vg,UW];simp(disch:=omega)only[W_,eu,to,hMa,hMb,Cmd.cells,hw,mo 4 t4,STs,decide_eq_true e0,decide_eq_false e1]
   by_cases e2:c.ord=d.ord
   case neg=>simp only[hd0,decide_eq_true e0,decide_eq_true e1,decide_eq_false e2,UT,Vg,UW];simp(disch:=omega)only[W_,eu,to,hMa,hMb,Cmd.cells,hw,mo 4 t4,STs,decide_eq_true e0,decide_eq_true e1,decide_eq_false e2]
   by_cases e3:c.force=d.force
   case neg=>simp only[hd0,decide_eq_true e0,decide_eq_true e1,decide_eq_true e2,decide_eq_false e3,UT,Vg,UW];simp(disch:=omega)only[W_,eu,to,hMa,hMb,Cmd.cells,hw,mo 4 t4,STs,decide_eq_true e0,decide_eq_true e1,decide_eq_true e2,decide_eq_false e3]
   by_cases e4:c.vol=d.vol
   case neg=>simp only[hd0,decide_eq_true e0,decide_eq_true e1,decide_eq_true e2,decide_eq_true e3,decide_eq_false e4,UT,Vg,UW];simp(disch:=omega)only[W_,eu,to,hMa,hMb,Cmd.cells,hw,mo 4 t4,STs,decide_eq_true e0,decide_eq_true e1,decide_eq_true e2,decide_eq_true e3,decide_eq_false e4]
   by_cases e5:c.oth=d.oth
   case neg=>simp only[hd0,decide_eq_true e0,decide_eq_true e1,decide_eq_true e2,decide_eq_true e3,decide_eq_true e4,decide_eq_false e5,UT,Vg,UW];simp(disch:=omega)only[W_,eu,to,hMa,hMb,Cmd.cells,hw,mo 4 t4,STs,decide_eq_true e0,decide_eq_true e1,decide_eq_true e2,decide_eq_true e3,decide_eq_true e4,decide_eq_false e5]
   by_cases e6:c.at_=d.at_
   case neg=>simp only[hd0,decide_eq_true e0,decide_eq_true e1,decide_eq_true e2,decide_eq_true e3,decide_eq_true e4,decide_eq_true e5,decide_eq_false e6,UT,Vg,UW];simp(disch:=omega)only[W_,eu,to,hMa,hMb,Cmd.cells,hw,mo 4 t4,STs,decide_eq_true e0,decide_eq_true e1,decide_eq_true e2,decide_eq_true e3,decide_eq_true e4,decide_eq_true e5,decide_eq_false e6]
   simp only[hd0,decide_eq_true e0,decide_eq_true e1,decide_eq_true e2,decide_eq_true e3,decide_eq_true e4,decide_eq_true e5,decide_eq_true e6,UT];simp(disch:=omega)only[W_,eu,to,hMa,hMb,Cmd.cells,hw,mo 4 t4,STs,decide_eq_true e0,decide_eq_true e1,decide_eq_true e2,decide_eq_true e3,decide_eq_true e4,decide_eq_true e5,decide_eq_true e6]
  ·have:nT c d=false:=by unfold nT;rw[decide_eq_false hdat];rfl
   rw[this];have hw:SL w (bit n)=0:=jE h3 (by omega);simp(disch:=omega)only[W_,eu,to,hw]
 ·have:nT c d=false:=by unfold nT;rw[decide_eq_false (λh=>h0 (by rw[h]))];rfl
  rw[this];simp(disch:=omega)only[W_,eu,to,hc.one,hd.one,hc.len,hd.len]
def kV(c:Cmd):Prop:=0<=c.tag/\c.tag<=2147483647/\(c.ord=0\/c.ord=1)
def K1(c:Cmd):Prop:=j5 c.vol/\c.oth=⟨#[]⟩/\c.data=[]/\c.force=false/\iF c.at_ c.len/\c.len<=16
def K2(c:Cmd):Prop:=j5 c.vol/\c.oth=⟨#[]⟩/\iF c.at_ c.len/\c.len<=16/\(c.data.length:Int)=c.len
def K3(c:Cmd):Prop:=j5 c.vol/\c.oth=⟨#[]⟩/\c.data=[]/\iF c.at_ c.len
def K4(c:Cmd):Prop:=c.vol=⟨#[]⟩/\c.oth=⟨#[]⟩/\c.data=[]/\c.force=false/\c.at_=0/\c.len=0
def K5(c:Cmd):Prop:=j5 c.vol/\c.oth=⟨#[]⟩/\c.data=[]/\c.force=false/\1<=c.len/\c.len<=65536/\0<=c.at_/\c.at_<=c.len
def K6(c:Cmd):Prop:=j5 c.vol/\j5 c.oth/\c.oth≠c.vol/\c.data=[]/\c.force=false/\c.at_=0/\c.len=0
def K7(c:Cmd):Prop:=j5 c.vol/\c.oth=⟨#[]⟩/\c.data=[]/\c.force=false/\c.at_=0/\c.len=0
def jm(c:Cmd):Prop:=kV c/\((c.kind=1/\K1 c)\/(c.kind=2/\K2 c)\/(c.kind=3/\K3 c)\/(c.kind=4/\K4 c)\/(c.kind=5/\K5 c)\/(c.kind=6/\K6 c)\/(c.kind=7/\K7 c))
open Classical in
noncomputable def jJ(c:Cmd):Bool:=decide (jm c)
open Classical in
theorem LU{c:Cmd}(h:jm c):jJ c=true:=by unfold jJ;exact decide_eq_true h
open Classical in
theorem iP{c:Cmd}(h:¬jm c):jJ c=false:=by unfold jJ;exact decide_eq_false h
theorem tZ{c:Cmd}(hk:c.kind=1):jm c↔kV c/\K1 c:=by
 unfold jm;refine and_congr_right λ_=>⟨λh=>?_,λh=>.inl ⟨hk,h⟩⟩;rcases h with⟨h1,h2⟩|⟨h1,h2⟩|⟨h1,h2⟩|⟨h1,h2⟩|⟨h1,h2⟩|⟨h1,h2⟩|⟨h1,h2⟩
 ·exact h2
 ·omega
 ·omega
 ·omega
 ·omega
 ·omega
 ·omega
theorem tY{c:Cmd}(hk:c.kind=2):jm c↔kV c/\K2 c:=by
 unfold jm;refine and_congr_right λ_=>⟨λh=>?_,λh=>.inr (.inl ⟨hk,h⟩)⟩;rcases h with⟨h1,h2⟩|⟨h1,h2⟩|⟨h1,h2⟩|⟨h1,h2⟩|⟨h1,h2⟩|⟨h1,h2⟩|⟨h1,h2⟩
 ·omega
 ·exact h2
 ·omega
 ·omega
 ·omega
 ·omega
 ·omega
theorem BF{c:Cmd}(hk:c.kind=3):jm c↔kV c/\K3 c:=by
 unfold jm;refine and_congr_right λ_=>⟨λh=>?_,λh=>.inr (.inr (.inl ⟨hk,h⟩))⟩;rcases h with⟨h1,h2⟩|⟨h1,h2⟩|⟨h1,h2⟩|⟨h1,h2⟩|⟨h1,h2⟩|⟨h1,h2⟩|⟨h1,h2⟩
 ·omega
 ·omega
 ·exact h2
 ·omega
 ·omega
 ·omega
 ·omega
theorem H5{c:Cmd}(hk:c.kind=4):jm c↔kV c/\K4 c:=by
 unfold jm;refine and_congr_right λ_=>⟨λh=>?_,λh=>.inr (.inr (.inr (.inl ⟨hk,h⟩)))⟩;rcases h with⟨h1,h2⟩|⟨h1,h2⟩|⟨h1,h2⟩|⟨h1,h2⟩|⟨h1,h2⟩|⟨h1,h2⟩|⟨h1,h2⟩
 ·omega
 ·omega
 ·omega
 ·exact h2
 ·omega
 ·omega
 ·omega
theorem sI{c:Cmd}(hk:c.kind=5):jm c↔kV c/\K5 c:=by
 unfold jm;refine and_congr_right λ_=>⟨λh=>?_,λh=>.inr (.inr (.inr (.inr (.inl ⟨hk,h⟩))))⟩;rcases h with⟨h1,h2⟩|⟨h1,h2⟩|⟨h1,h2⟩|⟨h1,h2⟩|⟨h1,h2⟩|⟨h1,h2⟩|⟨h1,h2⟩
 ·omega
 ·omega
 ·omega
 ·omega
 ·exact h2
 ·omega
 ·omega
theorem xe{c:Cmd}(hk:c.kind=6):jm c↔kV c/\K6 c:=by
 unfold jm;refine and_congr_right λ_=>⟨λh=>?_,λh=>.inr (.inr (.inr (.inr (.inr (.inl ⟨hk,h⟩)))))⟩;rcases h with⟨h1,h2⟩|⟨h1,h2⟩|⟨h1,h2⟩|⟨h1,h2⟩|⟨h1,h2⟩|⟨h1,h2⟩|⟨h1,h2⟩
 ·omega
 ·omega
 ·omega
 ·omega
 ·omega
 ·exact h2
 ·omega
theorem H4{c:Cmd}(hk:c.kind=7):jm c↔kV c/\K7 c:=by
 unfold jm;refine and_congr_right λ_=>⟨λh=>?_,λh=>.inr (.inr (.inr (.inr (.inr (.inr (⟨hk,h⟩))))))⟩;rcases h with⟨h1,h2⟩|⟨h1,h2⟩|⟨h1,h2⟩|⟨h1,h2⟩|⟨h1,h2⟩|⟨h1,h2⟩|⟨h1,h2⟩
 ·omega
 ·omega
 ·omega
 ·omega
 ·omega
 ·omega
 ·exact h2
theorem Rr{c:Cmd}(h:¬(1<=c.kind/\c.kind<=7)):¬jm c:=λhv=>by rcases hv.2 with⟨h1,_⟩|⟨h1,_⟩|⟨h1,_⟩|⟨h1,_⟩|⟨h1,_⟩|⟨h1,_⟩|⟨h1,_⟩<;>omega
theorem mM{c d:Cmd}:nT c d=true↔c=d:=by cases c;cases d;simp only[nT,No,decide_eq_true_eq,Cmd.mk.injEq];exact⟨λ⟨a,b,c,d,e,f,g,h,i⟩=>⟨b,c,d,e,f,g,h,i,a⟩,λ⟨b,c,d,e,f,g,h,i,a⟩=>⟨a,b,c,d,e,f,g,h,i⟩⟩
theorem kr{c:Cmd}:jJ c=true↔jm c:=by
 by_cases h:jm c
 ·rw[LU h];simp[h]
 ·rw[iP h];simp[h]
def L9(c:Cmd):Cmd:={tag:=c.tag,kind:=c.kind,ord:=c.ord,force:=false,vol:=c.vol,oth:=⟨#[]⟩,at_:=c.at_,len:=c.len,data:=[]}
theorem vs_1{c:Cmd}(hh:kV c)(hk:c.kind=1)(h0:j5 c.vol)(h1:iF c.at_ c.len)(h2:c.len<=16):jJ c=nT c (L9 c):=by
 rw[UN,mM,kr,tZ hk];constructor
 ·rintro⟨_,_,r1,r2,r3,_,_⟩;cases c
  simp_all [L9]
 ·intro h;exact⟨hh,h0,congrArg Cmd.oth h,congrArg Cmd.data h,congrArg Cmd.force h,h1,h2⟩
def L0(c:Cmd):Cmd:={tag:=c.tag,kind:=c.kind,ord:=c.ord,force:=c.force,vol:=c.vol,oth:=⟨#[]⟩,at_:=c.at_,len:=c.len,data:=c.data}
theorem vs_2{c:Cmd}(hh:kV c)(hk:c.kind=2)(h0:j5 c.vol)(h1:iF c.at_ c.len)(h2:c.len<=16)(h3:(c.data.length:Int)=c.len):jJ c=nT c (L0 c):=by
 rw[UN,mM,kr,tY hk];constructor
 ·rintro⟨_,_,r1,_,_,_⟩;cases c
  simp_all [L0]
 ·intro h;exact⟨hh,h0,congrArg Cmd.oth h,h1,h2,h3⟩
def LZ(c:Cmd):Cmd:={tag:=c.tag,kind:=c.kind,ord:=c.ord,force:=c.force,vol:=c.vol,oth:=⟨#[]⟩,at_:=c.at_,len:=c.len,data:=[]}
theorem vs_3{c:Cmd}(hh:kV c)(hk:c.kind=3)(h0:j5 c.vol)(h1:iF c.at_ c.len):jJ c=nT c (LZ c):=by
 rw[UN,mM,kr,BF hk];constructor
 ·rintro⟨_,_,r1,r2,_⟩;cases c
  simp_all [LZ]
 ·intro h;exact⟨hh,h0,congrArg Cmd.oth h,congrArg Cmd.data h,h1⟩
def LY(c:Cmd):Cmd:={tag:=c.tag,kind:=c.kind,ord:=c.ord,force:=false,vol:=c.vol,oth:=⟨#[]⟩,at_:=0,len:=0,data:=[]}
theorem vs_4{c:Cmd}(hh:kV c)(hk:c.kind=4)(h0:c.vol=⟨#[]⟩):jJ c=nT c (LY c):=by
 rw[UN,mM,kr,H5 hk];constructor
 ·rintro⟨_,_,r1,r2,r3,r4,r5⟩;cases c
  simp_all [LY]
 ·intro h;exact⟨hh,h0,congrArg Cmd.oth h,congrArg Cmd.data h,congrArg Cmd.force h,congrArg Cmd.at_ h,congrArg Cmd.len h⟩
def LX(c:Cmd):Cmd:={tag:=c.tag,kind:=c.kind,ord:=c.ord,force:=false,vol:=c.vol,oth:=⟨#[]⟩,at_:=c.at_,len:=c.len,data:=[]}
theorem vs_5{c:Cmd}(hh:kV c)(hk:c.kind=5)(h0:j5 c.vol)(h1:1<=c.len)(h2:c.len<=65536)(h3:0<=c.at_)(h4:c.at_<=c.len):jJ c=nT c (LX c):=by
 rw[UN,mM,kr,sI hk];constructor
 ·rintro⟨_,_,r1,r2,r3,_,_,_,_⟩;cases c
  simp_all [LX]
 ·intro h;exact⟨hh,h0,congrArg Cmd.oth h,congrArg Cmd.data h,congrArg Cmd.force h,h1,h2,h3,h4⟩
def LW(c:Cmd):Cmd:={tag:=c.tag,kind:=c.kind,ord:=c.ord,force:=false,vol:=c.vol,oth:=c.oth,at_:=0,len:=0,data:=[]}
theorem vs_6{c:Cmd}(hh:kV c)(hk:c.kind=6)(h0:j5 c.vol)(h1:j5 c.oth)(h2:c.oth≠c.vol):jJ c=nT c (LW c):=by
 rw[UN,mM,kr,xe hk];constructor
 ·rintro⟨_,_,_,_,r3,r4,r5,r6⟩;cases c
  simp_all [LW]
 ·intro h;exact⟨hh,h0,h1,h2,congrArg Cmd.data h,congrArg Cmd.force h,congrArg Cmd.at_ h,congrArg Cmd.len h⟩
def LV(c:Cmd):Cmd:={tag:=c.tag,kind:=c.kind,ord:=c.ord,force:=false,vol:=c.vol,oth:=⟨#[]⟩,at_:=0,len:=0,data:=[]}
theorem vs_7{c:Cmd}(hh:kV c)(hk:c.kind=7)(h0:j5 c.vol):jJ c=nT c (LV c):=by
 rw[UN,mM,kr,H4 hk];constructor
 ·rintro⟨_,_,r1,r2,r3,r4,r5⟩;cases c
  simp_all [LV]
 ·intro h;exact⟨hh,h0,congrArg Cmd.oth h,congrArg Cmd.data h,congrArg Cmd.force h,congrArg Cmd.at_ h,congrArg Cmd.len h⟩
theorem FQ7(hT:nK Y){c:Cmd}(d:AT)(hF:c.Fit)(hc:jn m n d c.data):(∀m n,Pure (fL PG EL Y 50 [.string c.vol] m n) m n (.bool (kH c.vol)))/\(∀m n,Pure (fL PG EL Y 50 [.string c.oth] m n) m n (.bool (kH c.oth)))/\(∀m n,Pure (fL PG EL Y 51 [.int .i64 c.at_,.int .i64 c.len] m n) m n (.bool (decide (iF c.at_ c.len))))/\∀m n,Pure (fL PG EL Y 49 [jx c d] m n) m n (.agg #[.int .i64 c.tag,.int .i64 c.kind,.int .i64 c.ord,.bool false,.string ⟨#[]⟩,.string ⟨#[]⟩,.int .i64 0,.int .i64 0,.slice none 0 0]):=⟨λm n=>iD hT m n _ hF.vol,λm n=>iD hT m n _ hF.oth,λm n=>jR m n _ _ hF.at_ hF.len,λm n=>lm m n c d hc.one⟩
set_option maxHeartbeats 8000000 in
theorem Hk(hT:nK Y)(m:FM)(n:Nat)(c:Cmd)(d:AT)(hF:c.Fit)(hc:jn m n d c.data)(hh:kV c)(hk:c.kind=1):
  Pure (fL PG EL Y 18 [jx c d] m n) m n (.bool (jJ c)):=by
 obtain⟨hNv,hNo,hIn,hOn⟩:=FQ7 hT d hF hc;refine gC e18 rfl rfl ?_;simp only[Ab,jx];rcases hh.2.2 with t4|t4
 all_goals
  have t1:=hh.1;have t2:=hh.2.1;by_cases nv:j5 c.vol
  case neg=>
   rw[iP λh=>nv ((tZ hk).1 h).2.1]
   repeat (first|refine fF (by first|exact hOn _ _|exact hNv _ _|exact hNo _ _|exact hIn _ _) λ_=>?_|simp(disch:=omega)only[W_,eu,to,U5,AS,By,BY,hc.one,dW hc.one,hc.len,hc.bel,STs,SY,SS,mz nv])
  by_cases hi:iF c.at_ c.len
  case neg=>
   rw[iP λh=>hi ((tZ hk).1 h).2.2.2.2.2.1]
   repeat (first|refine fF (by first|exact hOn _ _|exact hNv _ _|exact hNo _ _|exact hIn _ _) λ_=>?_|simp(disch:=omega)only[W_,eu,to,U5,AS,By,BY,hc.one,dW hc.one,hc.len,hc.bel,STs,SY,SS,iN nv,decide_eq_false hi])
  by_cases g5:c.len<=16
  case neg=>
   rw[iP λh=>g5 ((tZ hk).1 h).2.2.2.2.2.2]
   repeat (first|refine fF (by first|exact hOn _ _|exact hNv _ _|exact hNo _ _|exact hIn _ _) λ_=>?_|simp(disch:=omega)only[W_,eu,to,U5,AS,By,BY,hc.one,dW hc.one,hc.len,hc.bel,STs,SY,SS,iN nv,decide_eq_true hi])
  rw[vs_1 hh hk nv hi g5]
  repeat (first|refine fF (by first|exact hOn _ _|exact hNv _ _|exact hNo _ _|exact hIn _ _) λ_=>?_|simp(disch:=omega)only[W_,eu,to,U5,AS,By,BY,hc.one,dW hc.one,hc.len,hc.bel,STs,SY,SS,iN nv,decide_eq_true hi])
  refine fF (mL _ _ c (L9 c) d (.slice none 0 0) (hc.frame (by omega) λb hb=>by simp(disch:=omega)only[W_,eu,to,U5,AS,By,BY]) (jn.nil _ _) hF.data (Tq _)) λ_=>?_
  repeat (first|refine fF (by first|exact hOn _ _|exact hNv _ _|exact hNo _ _|exact hIn _ _) λ_=>?_|simp(disch:=omega)only[W_,eu,to,U5,AS,By,BY,hc.one,dW hc.one,hc.len,hc.bel,STs,SY,SS,iN nv,decide_eq_true hi])
set_option maxHeartbeats 8000000 in
theorem Hj(hT:nK Y)(m:FM)(n:Nat)(c:Cmd)(d:AT)(hF:c.Fit)(hc:jn m n d c.data)(hh:kV c)(hk:c.kind=2):
  Pure (fL PG EL Y 18 [jx c d] m n) m n (.bool (jJ c)):=by
 obtain⟨hNv,hNo,hIn,hOn⟩:=FQ7 hT d hF hc;refine gC e18 rfl rfl ?_;simp only[Ab,jx];rcases hh.2.2 with t4|t4
 all_goals
  have t1:=hh.1;have t2:=hh.2.1;by_cases nv:j5 c.vol
  case neg=>
   rw[iP λh=>nv ((tY hk).1 h).2.1]
   repeat (first|refine fF (by first|exact hOn _ _|exact hNv _ _|exact hNo _ _|exact hIn _ _) λ_=>?_|simp(disch:=omega)only[W_,eu,to,U5,AS,By,BY,hc.one,dW hc.one,hc.len,hc.bel,STs,SY,SS,mz nv])
  by_cases hi:iF c.at_ c.len
  case neg=>
   rw[iP λh=>hi ((tY hk).1 h).2.2.2.1]
   repeat (first|refine fF (by first|exact hOn _ _|exact hNv _ _|exact hNo _ _|exact hIn _ _) λ_=>?_|simp(disch:=omega)only[W_,eu,to,U5,AS,By,BY,hc.one,dW hc.one,hc.len,hc.bel,STs,SY,SS,iN nv,decide_eq_false hi])
  by_cases g3:c.len<=16
  case neg=>
   rw[iP λh=>g3 ((tY hk).1 h).2.2.2.2.1]
   repeat (first|refine fF (by first|exact hOn _ _|exact hNv _ _|exact hNo _ _|exact hIn _ _) λ_=>?_|simp(disch:=omega)only[W_,eu,to,U5,AS,By,BY,hc.one,dW hc.one,hc.len,hc.bel,STs,SY,SS,iN nv,decide_eq_true hi])
  by_cases g4:(c.data.length:Int)=c.len
  case neg=>
   rw[iP λh=>g4 ((tY hk).1 h).2.2.2.2.2]
   repeat (first|refine fF (by first|exact hOn _ _|exact hNv _ _|exact hNo _ _|exact hIn _ _) λ_=>?_|simp(disch:=omega)only[W_,eu,to,U5,AS,By,BY,hc.one,dW hc.one,hc.len,hc.bel,STs,SY,SS,iN nv,decide_eq_true hi])
  rw[vs_2 hh hk nv hi g3 g4]
  repeat (first|refine fF (by first|exact hOn _ _|exact hNv _ _|exact hNo _ _|exact hIn _ _) λ_=>?_|simp(disch:=omega)only[W_,eu,to,U5,AS,By,BY,hc.one,dW hc.one,hc.len,hc.bel,STs,SY,SS,iN nv,decide_eq_true hi])
  refine fF (mL _ _ c (L0 c) d d (hc.frame (by omega) λb hb=>by simp(disch:=omega)only[W_,eu,to,U5,AS,By,BY]) (hc.frame (by omega) λb hb=>by simp(disch:=omega)only[W_,eu,to,U5,AS,By,BY]) hF.data hF.data) λ_=>?_
  repeat (first|refine fF (by first|exact hOn _ _|exact hNv _ _|exact hNo _ _|exact hIn _ _) λ_=>?_|simp(disch:=omega)only[W_,eu,to,U5,AS,By,BY,hc.one,dW hc.one,hc.len,hc.bel,STs,SY,SS,iN nv,decide_eq_true hi])
set_option maxHeartbeats 8000000 in
theorem Hi(hT:nK Y)(m:FM)(n:Nat)(c:Cmd)(d:AT)(hF:c.Fit)(hc:jn m n d c.data)(hh:kV c)(hk:c.kind=3):
  Pure (fL PG EL Y 18 [jx c d] m n) m n (.bool (jJ c)):=by
 obtain⟨hNv,hNo,hIn,hOn⟩:=FQ7 hT d hF hc;refine gC e18 rfl rfl ?_;simp only[Ab,jx];rcases hh.2.2 with t4|t4
 all_goals
  have t1:=hh.1;have t2:=hh.2.1;by_cases nv:j5 c.vol
  case neg=>
   rw[iP λh=>nv ((BF hk).1 h).2.1]
   repeat (first|refine fF (by first|exact hOn _ _|exact hNv _ _|exact hNo _ _|exact hIn _ _) λ_=>?_|simp(disch:=omega)only[W_,eu,to,U5,AS,By,BY,hc.one,hc.len,hc.bel,STs,SY,SS,mz nv])
  by_cases hi:iF c.at_ c.len
  case neg=>
   rw[iP λh=>hi ((BF hk).1 h).2.2.2.2]
   repeat (first|refine fF (by first|exact hOn _ _|exact hNv _ _|exact hNo _ _|exact hIn _ _) λ_=>?_|simp(disch:=omega)only[W_,eu,to,U5,AS,By,BY,hc.one,hc.len,hc.bel,STs,SY,SS,iN nv,decide_eq_false hi])
  rw[vs_3 hh hk nv hi]
  repeat (first|refine fF (by first|exact hOn _ _|exact hNv _ _|exact hNo _ _|exact hIn _ _) λ_=>?_|simp(disch:=omega)only[W_,eu,to,U5,AS,By,BY,hc.one,hc.len,hc.bel,STs,SY,SS,iN nv,decide_eq_true hi])
  refine fF (mL _ _ c (LZ c) d (.slice none 0 0) (hc.frame (by omega) λb hb=>by simp(disch:=omega)only[W_,eu,to,U5,AS,By,BY]) (jn.nil _ _) hF.data (Tq _)) λ_=>?_
  repeat (first|refine fF (by first|exact hOn _ _|exact hNv _ _|exact hNo _ _|exact hIn _ _) λ_=>?_|simp(disch:=omega)only[W_,eu,to,U5,AS,By,BY,hc.one,hc.len,hc.bel,STs,SY,SS,iN nv,decide_eq_true hi])
set_option maxHeartbeats 8000000 in
theorem Hh(hT:nK Y)(m:FM)(n:Nat)(c:Cmd)(d:AT)(hF:c.Fit)(hc:jn m n d c.data)(hh:kV c)(hk:c.kind=4):
  Pure (fL PG EL Y 18 [jx c d] m n) m n (.bool (jJ c)):=by
 obtain⟨hNv,hNo,hIn,hOn⟩:=FQ7 hT d hF hc;refine gC e18 rfl rfl ?_;simp only[Ab,jx];rcases hh.2.2 with t4|t4
 all_goals
  have t1:=hh.1;have t2:=hh.2.1;by_cases hv:c.vol=⟨#[]⟩
  case neg=>
   rw[iP λh=>hv ((H5 hk).1 h).2.1]
   repeat (first|refine fF (by first|exact hOn _ _|exact hNv _ _|exact hNo _ _|exact hIn _ _) λ_=>?_|simp(disch:=omega)only[W_,eu,to,U5,AS,By,BY,hc.one,hc.len,hc.bel,STs,SY,SS,decide_eq_false hv])
  rw[vs_4 hh hk hv]
  repeat (first|refine fF (by first|exact hOn _ _|exact hNv _ _|exact hNo _ _|exact hIn _ _) λ_=>?_|simp(disch:=omega)only[W_,eu,to,U5,AS,By,BY,hc.one,hc.len,hc.bel,STs,SY,SS,decide_eq_true hv])
  refine fF (mL _ _ c (LY c) d (.slice none 0 0) (hc.frame (by omega) λb hb=>by simp(disch:=omega)only[W_,eu,to,U5,AS,By,BY]) (jn.nil _ _) hF.data (Tq _)) λ_=>?_
  repeat (first|refine fF (by first|exact hOn _ _|exact hNv _ _|exact hNo _ _|exact hIn _ _) λ_=>?_|simp(disch:=omega)only[W_,eu,to,U5,AS,By,BY,hc.one,hc.len,hc.bel,STs,SY,SS,decide_eq_true hv])
set_option maxHeartbeats 8000000 in
theorem Hg(hT:nK Y)(m:FM)(n:Nat)(c:Cmd)(d:AT)(hF:c.Fit)(hc:jn m n d c.data)(hh:kV c)(hk:c.kind=5):
  Pure (fL PG EL Y 18 [jx c d] m n) m n (.bool (jJ c)):=by
 obtain⟨hNv,hNo,hIn,hOn⟩:=FQ7 hT d hF hc;refine gC e18 rfl rfl ?_;simp only[Ab,jx];rcases hh.2.2 with t4|t4
 all_goals
  have t1:=hh.1;have t2:=hh.2.1;by_cases nv:j5 c.vol
  case neg=>
   rw[iP λh=>nv ((sI hk).1 h).2.1]
   repeat (first|refine fF (by first|exact hOn _ _|exact hNv _ _|exact hNo _ _|exact hIn _ _) λ_=>?_|simp(disch:=omega)only[W_,eu,to,U5,AS,By,BY,hc.one,hc.len,hc.bel,STs,SY,SS,mz nv])
  by_cases g4:1<=c.len
  case neg=>
   rw[iP λh=>g4 ((sI hk).1 h).2.2.2.2.2.1]
   repeat (first|refine fF (by first|exact hOn _ _|exact hNv _ _|exact hNo _ _|exact hIn _ _) λ_=>?_|simp(disch:=omega)only[W_,eu,to,U5,AS,By,BY,hc.one,hc.len,hc.bel,STs,SY,SS,iN nv])
  by_cases g5:c.len<=65536
  case neg=>
   rw[iP λh=>g5 ((sI hk).1 h).2.2.2.2.2.2.1]
   repeat (first|refine fF (by first|exact hOn _ _|exact hNv _ _|exact hNo _ _|exact hIn _ _) λ_=>?_|simp(disch:=omega)only[W_,eu,to,U5,AS,By,BY,hc.one,hc.len,hc.bel,STs,SY,SS,iN nv])
  by_cases g6:0<=c.at_
  case neg=>
   rw[iP λh=>g6 ((sI hk).1 h).2.2.2.2.2.2.2.1]
   repeat (first|refine fF (by first|exact hOn _ _|exact hNv _ _|exact hNo _ _|exact hIn _ _) λ_=>?_|simp(disch:=omega)only[W_,eu,to,U5,AS,By,BY,hc.one,hc.len,hc.bel,STs,SY,SS,iN nv])
  by_cases g7:c.at_<=c.len
  case neg=>
   rw[iP λh=>g7 ((sI hk).1 h).2.2.2.2.2.2.2.2]
   repeat (first|refine fF (by first|exact hOn _ _|exact hNv _ _|exact hNo _ _|exact hIn _ _) λ_=>?_|simp(disch:=omega)only[W_,eu,to,U5,AS,By,BY,hc.one,hc.len,hc.bel,STs,SY,SS,iN nv])
  rw[vs_5 hh hk nv g4 g5 g6 g7]
  repeat (first|refine fF (by first|exact hOn _ _|exact hNv _ _|exact hNo _ _|exact hIn _ _) λ_=>?_|simp(disch:=omega)only[W_,eu,to,U5,AS,By,BY,hc.one,hc.len,hc.bel,STs,SY,SS,iN nv])
  refine fF (mL _ _ c (LX c) d (.slice none 0 0) (hc.frame (by omega) λb hb=>by simp(disch:=omega)only[W_,eu,to,U5,AS,By,BY]) (jn.nil _ _) hF.data (Tq _)) λ_=>?_
  repeat (first|refine fF (by first|exact hOn _ _|exact hNv _ _|exact hNo _ _|exact hIn _ _) λ_=>?_|simp(disch:=omega)only[W_,eu,to,U5,AS,By,BY,hc.one,hc.len,hc.bel,STs,SY,SS,iN nv])
end Go.Am.CR
