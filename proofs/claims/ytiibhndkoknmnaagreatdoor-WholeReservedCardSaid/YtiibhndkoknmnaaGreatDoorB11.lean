/- The machine and its runs, part 11. -/
import Derived.Test.YtiibhndkoknmnaaGreatDoorB10
set_option linter.unusedVariables false
set_option linter.unusedSimpArgs false
open Go renaming Value→AT,Addr→VD
open Nat renaming min→Tg,mod→SL,reduceAdd→to,le_trans→Tz,le_refl→IN,add_zero→Ve,le_succ→Tf,zero_add→TU,ble→Tj,eq_zero_or_pos→Ug,zero_mul→Yy,lt_succ_self→Td,beq_refl→UA,zero_mod→Wa,testBit→U5,reduceShiftRight→AS,reduceAnd→By,reduceBNe→BY,reduceMul→IS,max→UR,add_sub_cancel→UJ
open List renaming range→Ur,replicate→U2,ext_getElem→Wn,mem_singleton→SX,append_assoc→S6,nodup_append→T',countP_le_length→Vf,getElem?_eq_getElem→SH,length_map→SC,take_append_drop→UH,take_length→UE,getElem_mem→Tb,take_succ_eq_append_getElem→Th,drop_eq_getElem_cons→Tx,append_nil→SN,length_eq_zero_iff→SV,length_append→IT,take_left→XN,length_take→Vp,foldl_append→Yz,eq_nil_or_concat→WA,concat_eq_append→WB,length_cons→SA,mem_map→Us,filter_append→U7,mem_filter→TY,getElem?_eq_some_iff→S',length_filter_le→Um,length_range→Wf,map_append→Uu,flatMap_append→WQ,flatMap_cons→TO
open List.Sublist renaming refl→VV
open Classical renaming byContradiction→Vb
open Bool renaming and_eq_true→No
open Go.Am.AMem renaming put→If
namespace Go.Am.CR
set_option maxRecDepth 100000
open Go Go.Am
variable{Y:Nat->List AT->FM->Nat->OR FM}
variable{L K:List Ex}{n N n0 s S bb j N' sb k ob t:Nat}{m M M':FM}{v cv lv u kv rv:AT}{cs:List Int}{pre:List Nat}
theorem AF{P:Program}{rec:Nat->List AT->FM->Nat->OR FM}(e:List AT)(m:FM)(n:Nat)(op:POp)(xs:List Opd):gV P rec e m n (.pur op xs)=iK m n (wW P op (evs e xs)):=rfl
theorem zd{P:Program}(a b:Nat):wW P .min [.int .i64 (a:Int),.int .i64 (b:Int)]=some (.int .i64 ((Tg a b:Nat):Int)):=by
 show some (Value.int .i64 (cond (ltB (b:Int) (a:Int)) (b:Int) (a:Int)))=_;rw[lY];rcases Nat.lt_or_ge b a with h|h
 ·rw[decide_eq_true (by omega),show Tg a b=b from Nat.min_eq_right (by omega)];rfl
 ·rw[decide_eq_false (by omega),show Tg a b=a from Nat.min_eq_left h];rfl
theorem aap(a:Nat):mxV (.int .i64 (a:Int)) (.int .i64 0)=some (.int .i64 (a:Int)):=by show some (Value.int .i64 (cond (ltB (a:Int) (0:Int)) (0:Int) (a:Int)))=_;rw[lY,decide_eq_false (by omega)];rfl
def nG(S:Nat)(pre:List Nat):List AT:=(Ur S).map λs=>.bool (decide (s∈pre))
theorem JS(S:Nat)(pre:List Nat):(nG S pre).length=S:=by simp[nG]
theorem JR(S:Nat):nG S []=U2 S (.bool false):=by
 apply Wn
 ·simp[nG]
 ·intro i h1 h2;simp[nG]
theorem JT{pre:List Nat}(h:s<S):lC (nG S pre) s=some (.bool (decide (s∈pre))):=by rw[kD];simp[nG,h]
theorem JQ{pre:List Nat}(h:s<S):setCells (nG S pre) s [.bool true]=some (nG S (pre++[s])):=by
 rw[xh (by rw[JS];exact h)]
 congr 1
 apply Wn
 ·simp[nG]
 ·intro i h1 h2;rw[List.getElem_set];by_cases hi:s=i
  ·subst hi;simp[nG]
  ·have:decide (i∈pre++[s])=decide (i∈pre):=by rw[decide_eq_decide,List.mem_append,SX];exact⟨λh=>h.elim id λh=>absurd h.symm hi,.inl⟩
   simp only[nG,if_neg hi,List.getElem_map,List.getElem_range,this]
def tK(cs:List Int)(pre:List Nat):Nat:=pre.countP λs=>cs[s]?==some 1
theorem J7(cs:List Int)(pre:List Nat)(s:Nat):tK cs (pre++[s])=tK cs pre+(if cs[s]?=some 1 then 1 else 0):=by simp[tK,List.countP_append,List.countP_cons]
theorem JO{n:Nat}{cv:AT}(hb:cs.length<=65536){x:Ex}(hx:x.s+x.n<=cs.length)(hnd:(pre++slo x.pr).Nodup)(hp:pre.length+x.n<=100000000)(hsb:n<=sb)(hbb:bb<n)(u2 u3 u4 u6 u7 u8 u9 u10 u11 u12 u13 u14 u15 u16 u17 u18 u19 u20 u21 u22 u23 u24 u25 u26 u27 u28 u29 u30 u31 u32 u33 u34 y6 ag lv:AT):
  ∀(d i:Nat),i+d=x.n->∀(M:FM) (N:Nat),sb<N->M bb=some (.cells [cv] 0 false true)->Cts M n cv cs->M sb=some (.cells (nG cs.length (pre++slX x i)) 1 false true)->
  Gv (gD PG EL Y CW [.int .i64 (tK cs (pre++slX x i):Int),.int .i64 ((x.s+i:Nat):Int),u2,u3,u4,.int .i64 ((x.s+x.n:Nat):Int),u6,u7,u8,u9,u10,u11,u12,u13,u14,u15,u16,u17,u18,u19,u20,u21,u22,u23,u24,u25,u26,u27,u28,u29,u30,u31,u32,u33,u34,.slice (some ⟨sb,0,none⟩) cs.length cs.length,y6,.pointer (some ⟨bb,0,none⟩),ag,lv] M N) λX e M' N' w=>(X=.exit 2/\∃z,e=[.int .i64 (tK cs (pre++slo x.pr):Int),z,u2,u3,u4,.int .i64 ((x.s+x.n:Nat):Int),u6,u7,u8,u9,u10,u11,u12,u13,u14,u15,u16,u17,u18,u19,u20,u21,u22,u23,u24,u25,u26,u27,u28,u29,u30,u31,u32,u33,u34,.slice (some ⟨sb,0,none⟩) cs.length cs.length,y6,.pointer (some ⟨bb,0,none⟩),ag,lv])/\N'=N/\(∀b,b≠sb->M' b=M b)/\SL w (bit n)=0/\M' sb=some (.cells (nG cs.length (pre++slo x.pr)) 1 false true):=by
 intro d
 induction d with
 |zero=>
  intro i hi M N h1 h2 h3 hM;refine gA (L:=CW) (b:=vb) rfl ?_;simp only[vb];obtain rfl:i=x.n:=by omega
  rw[ui]at hM;rw[ui];simp(disch:=omega)only[W_,eu,to];exact⟨⟨_,rfl⟩,λ_ _=>trivial,hM⟩
 |succ d ih=>
  intro i hi M N h1 h2 h3 hM;refine gA (L:=CW) (b:=vb) rfl ?_;simp only[vb];have hs:x.s+i<cs.length:=by omega
  have g1:=JT (pre:=pre++slX x i) hs;have g2:=JQ (pre:=pre++slX x i) hs;rw[S6,<-q']at g2
  have hnot:decide (x.s+i∈pre++slX x i)=false:=by
   refine decide_eq_false λhm=>?_
   have h5:(pre++slX x (i+1)).Nodup:=hnd.sublist ((VV pre).append (by
    rw[<-ui]
    exact(List.range_sublist.2 (by omega)).map _))
   rw[q',<-S6]at h5;exact(T'.1 h5).2.2 _ hm _ (SX.2 rfl) rfl
  rw[hnot]at g1;have hone:tK cs (pre++slX x i)<=100000000:=Tz Vf (by simp[slX];omega);have hstep:=J7 cs (pre++slX x i) (x.s+i);rw[S6,<-q']at hstep;have o1:=h3.one;obtain⟨b,cap,opn,wr,rfl,hb1,hm⟩:=id h3;have g3:=oi hs;have hne:b≠sb:=by omega
  by_cases hc:cs[x.s+i]=1
  ·rw[SH hs,hc,if_pos rfl]at hstep;rw[hc]at g3;simp(disch:=omega)only[W_,eu,to,h2,hm,hM,g1,g2,g3];rw[<-hstep];exact gR (ih (i+1) (by omega) _ _ h1 ((en _ _ _ _ (by omega)).trans h2) ⟨b,cap,opn,wr,rfl,hb1,(en _ _ _ _ hne).trans hm⟩ (eB _ _ _)) λX e m n w ⟨q1,q2,q3,q4,q5⟩=>⟨q1,q2,λb hb=>(q3 b hb).trans (en _ _ _ _ hb),(by simp(disch:=omega)only[fB,eS,eR,and_self,q4]),q5⟩
  ·rw[SH hs,if_neg (by simpa using hc)]at hstep;replace hstep:tK cs (pre++slX x (i+1))=tK cs (pre++slX x i):=hstep;simp(disch:=omega)only[W_,eu,to,h2,hm,hM,g1,g2,g3];rw[<-hstep];exact gR (ih (i+1) (by omega) _ _ h1 ((en _ _ _ _ (by omega)).trans h2) ⟨b,cap,opn,wr,rfl,hb1,(en _ _ _ _ hne).trans hm⟩ (eB _ _ _)) λX e m n w ⟨q1,q2,q3,q4,q5⟩=>⟨q1,q2,λb hb=>(q3 b hb).trans (en _ _ _ _ hb),(by simp(disch:=omega)only[fB,eS,eR,and_self,q4]),q5⟩
theorem JN{m:FM}{n:Nat}(hc:Cts m n cv cs)(hL:Exs m n lv L)(hb:cs.length<=65536)(hl:∀x∈L,1<=x.n/\x.s+x.n<=cs.length)(hn:lens L<=1000000)(hll:L.length<=1000000)(hnd:(slo (prs L)).Nodup){sb bb:Nat}(hsb:n<=sb)(hbb:bb<n)(hm:m bb=some (.cells [cv] 0 false true))(y4 y6 ag:AT):
  ∀(d j:Nat),j+d=L.length->∀(x2:AT) (M:FM) (N:Nat),sb<N->(∀b,b<n->M b=m b)->M sb=some (.cells (nG cs.length (slo (prs (L.take j)))) 1 false true)->
  Gv (gD PG EL Y CV [.int .i64 (tK cs (slo (prs (L.take j))):Int),.int .i64 (j:Int),x2,.int .i64 (L.length:Int),y4,.slice (some ⟨sb,0,none⟩) cs.length cs.length,y6,.pointer (some ⟨bb,0,none⟩),ag,lv] M N) λX e M' N' w=>(∃z1 z2,X=.exit 0/\e=[.int .i64 (tK cs (slo (prs L)):Int),z1,z2,y4,.slice (some ⟨sb,0,none⟩) cs.length cs.length,y6,.pointer (some ⟨bb,0,none⟩),ag,lv])/\SL w (bit n)=0:=by
 have q:=hL.gO;have o:=hL.one;have l:=hL.len;have o1:=hc.one;have l1:=hc.len
 have hone:∀j,tK cs (slo (prs (L.take j)))<=1000000:=λj=>by
  refine Tz Vf ?_;rw[show(slo (prs (L.take j))).length=(prs (L.take j)).length from SC ..,kR];have h1:lens L=lens (L.take j)+lens (L.drop j):=by rw[<-gF,UH]
  omega
 intro d
 induction d with
 |zero=>
  intro j hj x2 M N hN hf hM;refine gA (L:=CV) (b:=uZ) rfl ?_;simp only[uZ];obtain rfl:j=L.length:=by omega
  rw[UE];simp(disch:=omega)only[W_,eu,to];exact⟨_,_,rfl⟩
 |succ d ih=>
  intro j hj x2 M N hN hf hM;obtain⟨b,rest,opn,wr,hi,hb1,hm1⟩:=hL.at (by omega);have hmM:=(hf b hb1).trans hm1;have hmB:=(hf bb hbb).trans hm;obtain⟨c1,c2,c3,c4⟩:=jF (l:=L) (j:=j) rest (by omega);obtain⟨h1,h2⟩:=hl L[j] (Tb _);refine gA (L:=CV) (b:=uZ) rfl ?_;simp only[uZ];have q1:=zd (P:=PG) L[j].s cs.length;have q2:=zd (P:=PG) cs.length (L[j].s+L[j].n);rw[show Tg L[j].s cs.length=L[j].s from Nat.min_eq_left (by omega)]at q1;rw[show Tg cs.length (L[j].s+L[j].n)=L[j].s+L[j].n from Nat.min_eq_right (by omega)]at q2;simp(disch:=omega)only[W_,eu,to,hi j (by omega),hmM,hmB,c1,o,q,l1,o1,dW o1,AF,q1,q2,aap];have htk:slo (prs (L.take (j+1)))=slo (prs (L.take j))++slo L[j].pr:=by rw[Th (by omega),iZ,jw];simp[prs]
  have hnd2:(slo (prs (L.take j))++slo L[j].pr).Nodup:=by
   rw[<-htk];have h6:prs L=prs (L.take (j+1))++prs (L.drop (j+1)):=by rw[<-iZ,UH]
   rw[h6,jw]at hnd;exact(T'.1 hnd).1
  have hpre:(slo (prs (L.take j))).length+L[j].n<=100000000:=by
   rw[show(slo (prs (L.take j))).length=(prs (L.take j)).length from SC ..,kR];have h1:lens L=lens (L.take j)+lens (L.drop j):=by rw[<-gF,UH]
   rw[Tx (by omega),gH]at h1;omega
  have hM0:(If M N (some (.cells [.int .i64 (L[j].a:Int),.int .i64 (L[j].n:Int),.int .i64 (L[j].s:Int)] 0 false true)):FM) sb=some (.cells (nG cs.length (slo (prs (L.take j))++slX L[j] 0)) 1 false true):=by rw[en _ _ _ _ (by omega),hM];simp[slX]
  have hl0:=JO (Y:=Y) (n:=n) (cv:=cv) hb h2 hnd2 hpre hsb hbb (.int .i64 (L[j].s:Int)) (.int .i64 (L[j].s:Int)) (.pointer (some ⟨N,2,none⟩)) (.bool false) (.int .i64 (L[j].n:Int)) (.pointer (some ⟨N,1,none⟩)) (.int .i64 ((L[j].s+L[j].n:Nat):Int)) (.bool true) (.bool true) (.int .i64 ((cs.length-L[j].s:Nat):Int)) (.int .i64 (L[j].s:Int)) (.int .i64 (cs.length:Int)) (.int .i64 (L[j].s:Int)) (.pointer (some ⟨N,2,none⟩)) (.int .i64 (cs.length:Int)) (.int .i64 (L[j].n:Int)) (.pointer (some ⟨N,1,none⟩)) (.bool false) (.int .i64 (L[j].s:Int)) (.pointer (some ⟨N,2,none⟩)) (.int .i64 (cs.length:Int)) cv (.pointer (some ⟨bb,0,none⟩)) (.pointer (some ⟨N,0,none⟩)) (.agg #[.int .i64 (L[j].a:Int),.int .i64 (L[j].n:Int),.int .i64 (L[j].s:Int)]) (.pointer (some ⟨b,j*3,none⟩)) (.bool true) (.int .i64 (tK cs (slo (prs (L.take j))):Int)) (.int .i64 (j:Int)) x2 (.int .i64 (L.length:Int)) y4 y6 ag lv L[j].n 0 (by omega) _ (N+1) (by omega) ((en _ _ _ _ (by omega)).trans hmB) (hc.frame (IN _) λk hk=>gJ (by omega) (hf k hk)) hM0;simp only[Ve,show slX L[j] 0=[]from rfl,SN]at hl0;refine ic hl0 λX e M' N' r w ⟨⟨hX,z,he⟩,p2,p3,p4,p5⟩=>?_;subst hX he p2;rw[<-htk]at p5;simp(disch:=omega)only[W_,eu,to];rw[<-htk];exact gR (ih (j+1) (by omega) _ _ _ (by omega) (λb hb=>(p3 b (by omega)).trans ((en _ _ _ _ (by omega)).trans (hf b hb))) p5) λX e m n w ⟨r1,r2⟩=>⟨r1,(by simp(disch:=omega)only[fB,eS,eR,and_self,p4,r2])⟩
theorem DB(hc:Cts m n cv cs)(hL:Exs m n lv L)(hb:cs.length<=65536)(hl:∀x∈L,1<=x.n/\x.s+x.n<=cs.length)(hn:lens L<=1000000)(hll:L.length<=1000000)(hnd:(slo (prs L)).Nodup):
  Pure (fL PG EL Y 59 [.agg #[cv],lv] m n) m n (.int .i64 (tK cs (slo (prs L)):Int)):=by
 refine gC e59 rfl rfl ?_;simp only[ae3];have o:=hL.one;have l:=hL.len;have o1:=hc.one;have l1:=hc.len;simp(disch:=omega)only[W_,eu,to,o,o1,dW o1,l,l1];have fr:∀b,b<n+1->(If (If m n (some (.cells [cv] 0 false true))) (n+1) (some (.cells (U2 cs.length (.bool false)) 1 false true)):FM) b=(If m n (some (.cells [cv] 0 false true)):FM) b:=λb hb=>gu;have fr2:∀b,b<n->(If m n (some (.cells [cv] 0 false true)):FM) b=m b:=λb hb=>gu;have:=JN (Y:=Y) (m:=(If m n (some (.cells [cv] 0 false true)):FM)) (n:=n+1) (sb:=n+1) (bb:=n) (hc.frame (by omega) fr2) (hL.frame (by omega) fr2) hb hl hn hll hnd (IN _) (by omega) (eB _ _ _) (.int .i64 0) (.int .i64 0) (.agg #[cv]) L.length 0 (by omega) (.int .i64 0) _ (n+2) (by omega) fr (by rw[eB];exact congrArg (λc=>some (Blk.cells c 1 false true)) (JR _).symm);refine ic this λX e M' N' r w ⟨⟨z1,z2,hX,he⟩,hw⟩=>?_;subst hX he;have hw2:=jE hw (Tf n);simp(disch:=omega)only[W_,eu,to,hw2]
def jf(Y:Nat->List AT->FM->Nat->OR FM):Prop:=
 (∀(m:FM) (n:Nat) (a:Option VD) (k:Nat),∃r,Y 334 [.slice a 0 k,.func (.func 335) #[] #[]] m n=.ok (.tuple #[]) m n r 0)/\
 ∀(m:FM) (n b k:Nat) (L:List Ex) (rest:List AT) (opn:Bool),0<L.length->b<n->m b=some (.cells (exC L++rest) 3 opn true)->(L.map Ex.s).Nodup->(∀x∈L,x.small)->L.length<=100000->∃r,Y 334 [.slice (some ⟨b,0,none⟩) L.length k,.func (.func 335) #[] #[]] m n=.ok (.tuple #[]) (If m b (some (.cells (exC (iL L)++rest) 3 opn true))) n r (bit b)
theorem CP{sz bytes n0 ry ly ky:Nat}{c:List AT}{ay:Option VD}(hn:n0<N)(hm:M n0=some (.cells [] sz false true))(hone:c.all Am.one=true)(hsz:0<sz)(hby:0<bytes)(hl:ly*bytes<=140737488355328)(hc:c.length=ly*sz):
  Rt (nl sz bytes M N (.slice (some ⟨n0,0,none⟩) 0 0) (.slice ay ly ky) (some ([],0)) (some (c,ry))) λv' M' N' w=>N<=N'/\(∀b,b<n0->M' b=M b)/\(∀j,j<=n0->SL w (bit j)=0)/\∃b k opn,v'=.slice (some ⟨b,0,none⟩) ly k/\n0<=b/\b<N'/\M' b=some (.cells c sz opn true)/\(0<ly->k=UNK/\opn=true):=by
 rw[j9,j8];rw[show(c,ry).1.all Am.one=true from hone,gI hsz,gI hby,iq (by rw[TU];exact hl)];show Rt (cond (Tj (0+ly) 0) (LD M N sz 0 (0+ly) 0 c _ n0 0 (jc M N n0)) (zT M N sz (0+ly) ([]++c) _)) _;rw[TU,List.nil_append];rcases Ug ly with rfl|h0
 ·have hc0:c=[]:=SV.1 (by rw[hc,Yy]);subst hc0;rw[show Tj 0 0=true from rfl,ig hn,hm,cond_true];show Rt (tJ M N n0 sz false (Ah 0 0 0 n0) _ (setCells [] (0+0*sz) [])) _;rw[Yy];exact⟨IN _,λb hb=>gu,λj hj=>eS hj,n0,0,false,rfl,IN _,hn,eB _ _ _,λh=>by omega⟩
 ·have hb:Tj ly 0=false:=by
   cases h:Tj ly 0
   ·rfl
   ·exact absurd (Nat.le_of_ble_eq_true h) (by omega)
  rw[hb,cond_false];exact⟨Tf _,λb hb=>gu,λj hj=>eS (by omega),N,UNK,true,rfl,by omega,Td _,eB _ _ _,λ_=>⟨rfl,rfl⟩⟩
theorem IH:mA PG 148=true:=by kernel_rfl
theorem rM(h:Exs m n v L)(hl:L.length<=1000000):Rt (fL PG EL Y 332 [v] m n) λv' m' n' w=>n<=n'/\(∀b,b<n->m' b=m b)/\(∀j,j<=n->SL w (bit j)=0)/\((L=[]/\v'=.slice none 0 0)\/∃b k rest,v'=.slice (some ⟨b,0,none⟩) L.length k/\n<=b/\b<n'/\∃opn,m' b=some (.cells (exC L++rest) 3 opn true)):=by
 refine mT (R:=λv' m' n'=>(L=[]/\v'=.slice none 0 0)\/∃b k rest,v'=.slice (some ⟨b,0,none⟩) L.length k/\n<=b/\b<n'/\∃opn,m' b=some (.cells (exC L++rest) 3 opn true)) e332 rfl λQ hQ=>?_;simp only[PA];have o:=h.one;rcases h with⟨rfl,rfl⟩|⟨b,k,rest,opn,wr,rfl,hb,hm⟩
 ·simp(disch:=omega)only[W_,eu,to,mU IH,isNone_none];exact hQ _ _ _ _ _ (IN _) (λ_ _=>rfl) (by simp(disch:=omega)only[fB,eS,eR,and_self]) (λ_=>.inl ⟨rfl,rfl⟩) (λ_=>.inl ⟨rfl,rfl⟩)
 ·simp(disch:=omega)only[W_,eu,to,mU IH,isNone_some]
  have hsh:∃ry,shown (If m n (some (.cells [] 3 false true))) (n+1) 3 (.slice (some ⟨b,0,none⟩) L.length k)=some (exC L,ry):=by
   rcases Ug L.length with h0|h0
   ·rw[h0];obtain rfl:=SV.1 h0;exact⟨_,rfl⟩
   ·rw[jL h0,ig (by omega),en _ _ _ _ (by omega),hm,jr,UA,ja,kT];have:lS (exC L++rest) (L.length*3)=some (exC L):=by rw[jT,if_pos (by rw[IT,jA];omega),<-jA,XN]
    rw[this];exact⟨_,rfl⟩
  obtain⟨ry,hsh⟩:=hsh;rw[hsh];refine fI (CP (n0:=n) (by omega) (eB _ _ _) (tb L) (by omega) (by omega) (by omega) (jA L)) λv2 M2 N2 r2 w2 ⟨k2,f2,g2,b2,c2,opn2,hv2,h3,h4,h5,h6⟩=>?_;subst hv2;simp(disch:=omega)only[W_,eu,to];refine hQ _ _ _ _ _ (by omega) (λb hb=>(f2 b hb).trans (en _ _ _ _ (by omega))) (by simp(disch:=omega)only[fB,eS,eR,and_self,g2]) (λ_=>.inr ⟨b2,c2,[],rfl,h3,h4,opn2,by rw[SN];exact h5⟩) (λh=>by cases h)
theorem Gd(x:Ex)(h:x.ok):Pure (fL PG EL Y 333 [.agg x.cs.toArray] m n) m n (.bool false):=by refine gC e333 rfl rfl ?_;simp only[Pz,Ex.cs];simp(disch:=omega)only[W_,eu,to];refine fF (uo x h) λr1=>?_;simp(disch:=omega)only[W_,eu,to]
theorem ad9(h:Exs m n v L)(hL:∀x∈L,x.ok)(hB:L.length<=1000000)(e4:AT):
  ∀(d j:Nat),j+d=L.length->∀(x0 x2:AT) (M:FM) (N:Nat),n<=N->(∀b,b<n->M b=m b)->
  Gv (gD PG EL Y qH [x0,.int .i64 (j:Int),x2,.int .i64 (L.length:Int),e4,v,.func (.func 333) #[] #[]] M N) λX e M' N' w=>(∃z0 z1 z2,X=.exit 0/\e=[z0,z1,z2,e4,v,.func (.func 333) #[] #[]])/\w=0:=by
 have q:=h.gO;have o:=h.one;intro d
 induction d with
 |zero=>intro j hj x0 x2 M N hN hf;refine gA (L:=qH) (b:=mD) rfl ?_;simp only[mD];simp(disch:=omega)only[W_,eu,to];exact⟨_,_,_,rfl⟩
 |succ d ih=>intro j hj x0 x2 M N hN hf;obtain⟨b,rest,opn,wr,hi,hb,hm⟩:=h.at (by omega);have hmM:=(hf b hb).trans hm;obtain⟨c1,c2,c3,c4⟩:=jF (l:=L) (j:=j) rest (by omega);refine gA (L:=qH) (b:=mD) rfl ?_;simp only[mD];simp(disch:=omega)only[W_,eu,to,hi j (by omega),hmM,c1,o,q,oN,nj];refine fF (Gd L[j] (hL _ (Tb _))) λr1=>?_;simp(disch:=omega)only[W_,eu,to];exact gR (ih (j+1) (by omega) _ _ _ _ hN hf) λX e m n w ⟨p1,p2⟩=>⟨p1,by rw[p2];rfl⟩
theorem NU(h:Exs m n v L)(hL:∀x∈L,x.ok)(hB:L.length<=1000000):Pure (fL PG EL Y 379 [v,.func (.func 333) #[] #[]] m n) m n (.int .i64 (-1)):=by refine gC e379 rfl rfl ?_;simp only[I8];have l:=h.len;simp(disch:=omega)only[W_,eu,to,l];refine ic (ad9 h hL hB _ L.length 0 (by omega) _ _ m n (IN _) λ_ _=>rfl) λX e M' N' r w ⟨⟨z0,z1,z2,hX,he⟩,hw⟩=>?_;subst hX he hw;simp(disch:=omega)only[W_,eu,to]
theorem EC{L:List Ex}(h:Exs m n v L)(hL:∀x∈L,x.ok)(hB:L.length<=1000000):∃r w,fL PG EL Y 331 [v,.func (.func 333) #[] #[]] m n=.ok v m n r w/\w=0:=by
 have hq:Rt (fL PG EL Y 331 [v,.func (.func 333) #[] #[]] m n) λv' m' n' w=>v'=v/\m'=m/\n'=n/\w=0:=by
  rw[lT e331 rfl];have hw:Wr PG EL Y [] 0 (gD PG EL Y I9.code [v,.func (.func 333) #[] #[]] m n) λX _ m' n' w=>X=.ret v/\m'=m/\n'=n/\w=0:=by simp only[I9];simp(disch:=omega)only[W_,eu,to];refine fF (NU h hL hB) λr1=>?_;simp(disch:=omega)only[W_,eu,to]
  obtain⟨X,e',m',n',r,w,hx,rfl,rfl,rfl,rfl⟩:=kF (kG hw);rw[hx,lz];cases hv:gy v
  ·rw[oV hv];exact⟨rfl,rfl,rfl,rfl⟩
  ·rw[nh hv (Wa _)];exact⟨rfl,rfl,rfl,rfl⟩
 obtain⟨v',m',n',r,w,hx,rfl,rfl,rfl,rfl⟩:=hq.some;exact⟨r,0,hx,rfl⟩
theorem SD.take(h:SD L)(j:Nat):SD (L.take j):=⟨λx hx=>h.1 x (List.mem_of_mem_take hx),h.2.sublist (List.take_sublist _ _)⟩
theorem Gg(h:SD L)(hj:j<L.length){y:Ex}(hy:y∈rnF (L.take j)):y.s+y.n<=L[j].s:=by obtain⟨h1,h2⟩:=yK (h.take j);have h3:=h1.1 y hy;have h4:y.s+y.n-1∈sL (rnF (L.take j)):=tN.2 ⟨y,hy,by omega,by omega⟩;rw[h2]at h4;obtain⟨x,hx,h5,h6⟩:=tN.1 h4;obtain⟨i,hi,rfl⟩:=List.getElem_of_mem hx;rw[Vp]at hi;have:=List.pairwise_iff_getElem.1 h.2 i j (by omega) hj (by omega);rw[List.getElem_take]at h5 h6;omega
theorem MF{L:List Ex}{j:Nat}(hj:j<L.length):rnF (L.take (j+1))=rnS (rnF (L.take j)) L[j]:=by unfold rnF;rw[Th hj,Yz];rfl
theorem Ik:∀(L out:List Ex),(L.foldl rnS out).length<=out.length+L.length
 |[],out=>IN _
 |x::L,out=>by
  have h1:=Ik L (rnS out x)
  have h2:(rnS out x).length<=out.length+1:=by
   rcases WA out with rfl|⟨A,y,rfl⟩
   ·simp[BS]
   ·rw[WB,yJ];split<;>simp
  rw[List.foldl_cons,SA];omega
theorem Ev(A:List Ex)(y:Ex)(z:Nat):setCells (exC (A++[y])) (A.length*3+1) [.int .i64 (z:Int)]=some (exC (A++[⟨y.a,z,y.s⟩])):=by
 rw[xh (by rw[jA,IT];simp;omega)]
 congr 1
 rw[nM,nM,List.set_append,if_neg (by rw[jA];omega),jA,show A.length*3+1-A.length*3=1 by omega];rfl
theorem Ig{m:FM}{n:Nat}{K:List Ex}(hK:SD K)(hB:K.length<=100000){av:AT}(hA:Exs m n av K)(e4 e5 e6:AT):
  ∀(d j:Nat),j+d=K.length->∀(ov x2:AT) (M:FM) (N:Nat),n<=N->(∀b,b<n->M b=m b)->SlZ 3 M n N ov (rnF (K.take j)).length (exC (rnF (K.take j)))->
  Gv (gD PG EL Y xJ [ov,.int .i64 (j:Int),x2,.int .i64 (K.length:Int),e4,av,e5,e6] M N) λX e M' N' w=>(∃ov' z1 z2,X=.exit 0/\e=[ov',z1,z2,e4,av,e5,e6]/\SlZ 3 M' n N' ov' (rnF K).length (exC (rnF K)))/\N<=N'/\(∀b,b<n->M' b=m b)/\SL w (bit n)=0:=by
 intro d
 induction d with
 |zero=>
  intro j hj ov x2 M N hN hf hO;refine gA (L:=xJ) (b:=rZ) rfl ?_;simp only[rZ];obtain rfl:j=K.length:=by omega
  rw[UE]at hO;simp(disch:=omega)only[W_,eu,U5,to,AS,By,BY,IS];exact⟨⟨_,_,_,rfl,hO⟩,IN _,hf⟩
 |succ d ih=>
  intro j hj ov x2 M N hN hf hO;obtain⟨ab,rest,opn,wr,hi,ha,hm⟩:=hA.at (by omega);have hmM:=(hf ab ha).trans hm;obtain⟨c1,c2,c3,c4⟩:=jF (l:=K) (j:=j) rest (by omega);refine gA (L:=xJ) (b:=rZ) rfl ?_;simp only[rZ];have lo:=hO.len;have qo:=hO.bel;have oo:=hO.one;have hx:=hK.1 K[j] (Tb _);have hbf:=λy hy=>Gg hK (show j<K.length by omega) (y:=y) hy;have hnf:=(yK (hK.take j)).1;have hsc:=MF (L:=K) (j:=j) (by omega);have hol:(rnF (K.take j)).length<=100000:=by have:=Ik (K.take j) [];rw[Vp]at this;unfold rnF;simp only[List.length_nil]at this;omega
  have fr:∀b,b<N->(If M N (some (.cells [.int .i64 (K[j].a:Int),.int .i64 (K[j].n:Int),.int .i64 (K[j].s:Int)] 0 false true)):FM) b=M b:=λb hb=>gu;rcases WA (rnF (K.take j))with he|⟨A,y,he⟩
  ·rw[he]at hO lo hsc hol;rw[BS]at hsc;replace lo:qR false ov=some (.int .i64 0):=lo;simp(disch:=omega)only[W_,eu,U5,to,AS,By,BY,IS,hi j (by omega),hmM,c1,lo,oo];refine fI (rQ (L:=[]) (hO.frame (N':=N+2) (by omega) λb _ hb=>(en _ _ _ _ (by omega)).trans (en _ _ _ _ (by omega))) ⟨0,K[j].n,K[j].s⟩ _ _ _ (by omega) (by simp)) λv1 M1 n1 r1 w1 ⟨hn1,S1,f1,g1⟩=>?_;subst hn1;simp(disch:=omega)only[W_,eu,U5,to,AS,By,BY,IS];refine gR (ih (j+1) (by omega) _ _ _ _ (by omega) (λb hb=>(f1 b hb).trans ((en _ _ _ _ (by omega)).trans ((en _ _ _ _ (by omega)).trans (hf b hb)))) (by rw[hsc];exact S1)) λX e m n w ⟨p1,p2,p3,p4⟩=>⟨p1,by omega,p3,(by simp(disch:=omega)only[fB,eS,eR,and_self,g1,p4])⟩
  ·rw[WB]at he;rw[he]at hO lo hsc hol;rw[yJ]at hsc;have hy:=hnf.1 y (by rw[he];simp);have hyb:=hbf y (by rw[he];simp);have hAl:(A++[y]).length=A.length+1:=by simp
   rw[hAl]at hO lo hol;obtain⟨d1,d2,d3,d4⟩:=jF (l:=A++[y]) (j:=A.length) [] (by simp);simp only[SN,List.getElem_concat_length]at d1 d2 d3 d4;have d5:=Ev A y (UR y.n (K[j].s+K[j].n-y.s));have hmx:=zb y.n (K[j].s+K[j].n-y.s);by_cases hc:K[j].s<=y.s+y.n
   ·rcases hO with⟨h0,_⟩|⟨_,_,ob,rfl,hob1,hob2,hoM⟩
    ·omega
    rw[if_pos hc]at hsc;simp(disch:=omega)only[W_,eu,U5,to,AS,By,BY,IS,hi j (by omega),hmM,c1,lo,oo,hoM,d3,d4,UJ,hmx,d5]
    refine gR (ih (j+1) (by omega) _ _ _ _ (by omega) (λb hb=>(en _ _ _ _ (by omega)).trans ((en _ _ _ _ (by omega)).trans (hf b hb))) (by
     rw[hsc]
     exact .inr ⟨by simp,jA _,ob,by simp,hob1,by omega,eB _ _ _⟩)) λX e m n w ⟨p1,p2,p3,p4⟩=>⟨p1,by omega,p3,(by simp(disch:=omega)only[fB,eS,eR,and_self,p4])⟩
   ·obtain⟨ob,hix,hob1,hob2,hoM,_⟩:=hO.at (i:=A.length) (by omega);rw[if_neg hc]at hsc;have hO2:=hO;rw[<-hAl]at hO2;simp(disch:=omega)only[W_,eu,U5,to,AS,By,BY,IS,hi j (by omega),hmM,c1,lo,oo,qo,hix,hoM,d3,d4,UJ];refine fI (rQ (L:=A++[y]) (hO2.frame (N':=N+2) (by omega) λb _ hb=>(en _ _ _ _ (by omega)).trans (en _ _ _ _ (by omega))) ⟨0,K[j].n,K[j].s⟩ _ _ _ (by omega) (by rw[hAl];omega)) λv1 M1 n1 r1 w1 ⟨hn1,S1,f1,g1⟩=>?_;subst hn1;simp(disch:=omega)only[W_,eu,U5,to,AS,By,BY,IS];refine gR (ih (j+1) (by omega) _ _ _ _ (by omega) (λb hb=>(f1 b hb).trans ((en _ _ _ _ (by omega)).trans ((en _ _ _ _ (by omega)).trans (hf b hb)))) (by rw[hsc];exact S1)) λX e m n w ⟨p1,p2,p3,p4⟩=>⟨p1,by omega,p3,(by simp(disch:=omega)only[fB,eS,eR,and_self,g1,p4])⟩
theorem sN(hY:jf Y)(h:Exs m n v L)(hL:∀x∈L,x.ok)(hn:(sL L).Nodup)(hB:L.length<=100000):Kp (fL PG EL Y 255 [v] m n) m n λv' m' n'=>Exs m' n' v' (rnF (iL L)):=by
 refine gN (R:=λv' m' n'=>Exs m' n' v' (rnF (iL L))) e255 rfl (λ_ _ _ h1 h2=>h2.free h1) λQ hQ=>?_;simp only[Qf];have o:=h.one;simp(disch:=omega)only[W_,eu,U5,to,AS,By,BY,IS];refine fI (rM h (by omega)) λv1 M1 n1 r1 w1 ⟨k1,f1,g1,h1⟩=>?_
 have hcase:(L=[]/\∃a k,v1=.slice a 0 k/\Exs M1 n1 (.slice a 0 k) [])\/(0<L.length/\∃b k rest,v1=.slice (some ⟨b,0,none⟩) L.length k/\n<=b/\b<n1/\∃opn,M1 b=some (.cells (exC L++rest) 3 opn true)):=by
  rcases h1 with⟨rfl,rfl⟩|⟨b,k,rest,rfl,hb1,hb2,opn,hm⟩
  ·exact .inl ⟨rfl,_,_,rfl,Exs.nil M1 n1⟩
  ·rcases Ug L.length with h0|h0
   ·obtain rfl:=SV.1 h0;exact .inl ⟨rfl,_,_,rfl,.inr ⟨b,k,rest,opn,true,rfl,hb2,hm⟩⟩
   ·exact .inr ⟨h0,b,k,rest,rfl,hb1,hb2,opn,hm⟩
 clear h1;rcases hcase with⟨rfl,a,k,rfl,hE0⟩|⟨h0,b,k,rest,rfl,hb1,hb2,opn,hm⟩
 ·obtain⟨r2,w2,hd,rfl⟩:=EC (Y:=Y) hE0 (L:=[]) (by simp) (by simp);obtain⟨r3,h3⟩:=hY.1 M1 n1 a k;have o0:=hE0.one;simp(disch:=omega)only[W_,eu,U5,to,AS,By,BY,IS,hd,kU e334,h3,o0];refine ic (Ig (m:=M1) (n:=n1) (K:=[]) ⟨by simp,.nil⟩ (by simp) hE0 _ _ _ 0 0 rfl _ _ M1 n1 (IN _) (λ_ _=>rfl) (.inl ⟨rfl,rfl,rfl⟩)) λX e M' N' r w ⟨⟨ov,z1,z2,hX,he,hS⟩,p2,p3,p4⟩=>?_;subst hX he;have so:=hS.one;have h5:=jE p4 k1;simp(disch:=omega)only[W_,eu,U5,to,AS,By,BY,IS,so];exact hQ _ _ _ _ _ (by omega) (λb hb=>(p3 b (by omega)).trans (f1 b hb)) (by simp(disch:=omega)only[fB,eS,eR,and_self,g1,h5]) (SlZ.exs (L:=rnF (iL [])) (by rw[show iL []=[]from List.mergeSort_nil];exact hS.low k1))
 ·have hE:Exs M1 n1 (.slice (some ⟨b,0,none⟩) L.length k) L:=.inr ⟨b,k,rest,opn,true,rfl,hb2,hm⟩;obtain⟨r2,w2,hd,rfl⟩:=EC (Y:=Y) hE hL (by omega);obtain⟨r3,h3⟩:=hY.2 M1 n1 b k L rest opn h0 hb2 hm (GM (λx hx=>(hL x hx).1) hn) (λx hx=>by have:=hL x hx;unfold Ex.ok at this;unfold Ex.small;omega) hB;simp(disch:=omega)only[W_,eu,U5,to,AS,By,BY,IS,hd,kU e334,h3];have hlen:(iL L).length=L.length:=(ku L).length_eq;have hE2:Exs (If M1 b (some (.cells (exC (iL L)++rest) 3 opn true))) n1 (.slice (some ⟨b,0,none⟩) L.length k) (iL L):=.inr ⟨b,k,rest,opn,true,by rw[hlen],hb2,eB _ _ _⟩;have hl0:=Ig (Y:=Y) (n:=n1) (K:=iL L) (yx (λx hx=>⟨(hL x hx).1,(hL x hx).2.2⟩) hn) (by rw[hlen];exact hB) hE2 (.slice none 0 0) (.slice none 0 0) v L.length 0 (by rw[hlen,TU]) (.slice none 0 0) (.int .i64 0) _ n1 (IN _) (λ_ _=>rfl) (.inl ⟨rfl,rfl,rfl⟩);rw[hlen]at hl0;refine ic hl0 λX e M' N' r w ⟨⟨ov,z1,z2,hX,he,hS⟩,p2,p3,p4⟩=>?_;subst hX he;have so:=hS.one;have h5:=jE p4 k1;simp(disch:=omega)only[W_,eu,U5,to,AS,By,BY,IS,so];exact hQ _ _ _ _ _ (by omega) (λb' hb=>(p3 b' (by omega)).trans ((en _ _ _ _ (by omega)).trans (f1 b' hb))) (by simp(disch:=omega)only[fB,eS,eR,and_self,g1,h5]) (SlZ.exs (hS.low k1))
def sg(s:Nat):Ex:=⟨0,1,s⟩
theorem Ie:∀l:List Nat,sL (l.map sg)=l
 |[]=>rfl
 |s::l=>by rw[List.map_cons,iM,Ie l,iz];rfl
theorem acC(h:s<65536):(sg s).ok:=by unfold Ex.ok sg;dsimp only;omega
theorem sd_sg{l:List Nat}(h:l.Pairwise (·<·))(hl:∀s∈l,s<65536):SD (l.map sg):=by refine⟨λx hx=>?_,List.pairwise_map.2 (h.imp λh=>by unfold sg;dsimp only;omega)⟩;obtain⟨s,hs,rfl⟩:=Us.1 hx;have:=hl s hs;unfold sg;dsimp only;omega
def tn(cs:List Int):List Nat:=(Ur cs.length).filter λs=>cs[s]?==some 0
def tq(cs:List Int)(k:Nat):List Nat:=(Ur k).filter λs=>cs[s]?==some 0
theorem FF(cs:List Int){k:Nat}(h:k<cs.length):tq cs (k+1)=tq cs k++(if cs[k]=0 then[k]else[]):=by
 unfold tq;rw[List.range_succ,U7]
 congr 1
 by_cases hc:cs[k]=0<;>simp[h,hc]
theorem Dg(cs:List Int):(tn cs).Pairwise (·<·):=List.pairwise_lt_range.filter _
theorem Kj:s∈tn cs↔cs[s]?=some 0:=by unfold tn;rw[TY,List.mem_range,beq_iff_eq];exact⟨λh=>h.2,λh=>⟨(S'.1 h).1,h⟩⟩
theorem Rh{n:Nat}(hc:Cts m n cv cs)(hS:cs.length<=65536)(e4 e6 e7 e8:AT):
  ∀(d j:Nat),j+d=cs.length->∀(ov x2:AT) (M:FM) (N:Nat),n<=N->(∀b,b<n->M b=m b)->SlZ 3 M n N ov (tq cs j).length (exC ((tq cs j).map sg))->
  Gv (gD PG EL Y xS [ov,.int .i64 (j:Int),x2,.int .i64 (cs.length:Int),cv,e4,e6,e7,e8] M N) λX e M' N' w=>(∃ov' z1 z2,X=.exit 0/\e=[ov',z1,z2,cv,e4,e6,e7,e8]/\SlZ 3 M' n N' ov' (tn cs).length (exC ((tn cs).map sg)))/\N<=N'/\(∀b,b<n->M' b=m b)/\SL w (bit n)=0:=by
 have oc:=hc.one;intro d
 induction d with
 |zero=>
  intro j hj ov x2 M N hN hf hO;refine gA (L:=xS) (b:=sw) rfl ?_;simp only[sw];obtain rfl:j=cs.length:=by omega
  simp(disch:=omega)only[W_,eu,to,IS];exact⟨⟨_,_,_,rfl,hO⟩,IN _,hf⟩
 |succ d ih=>
  intro j hj ov x2 M N hN hf hO;obtain⟨b,k,opn,wr,rfl,hb,hm⟩:=hc;have hmM:=(hf b hb).trans hm;have g:=oi (l:=cs) (j:=j) (by omega);have hz:=FF cs (k:=j) (by omega);refine gA (L:=xS) (b:=sw) rfl ?_;simp only[sw];have oo:=hO.one;have hol:(tq cs j).length<=65536:=Tz (Um _ _) (by rw[Wf];omega);by_cases h0:cs[j]=0
  ·rw[h0]at g;rw[if_pos h0]at hz;simp(disch:=omega)only[W_,eu,to,IS,hmM,g,oo];have hO2:SlZ 3 M n N ov ((tq cs j).map sg).length (exC ((tq cs j).map sg)):=by rw[SC];exact hO
   refine fI (rQ (hO2.frame (N':=N+1) (by omega) λb _ hb=>gu) (sg j) _ _ _ (by omega) (by rw[SC];omega)) λv1 M1 n1 r1 w1 ⟨hn1,S1,f1,g1⟩=>?_;subst hn1;rw[show(tq cs j).map sg++[sg j]=(tq cs (j+1)).map sg by rw[hz,Uu];rfl,SC]at S1;simp(disch:=omega)only[W_,eu,to,IS];exact gR (ih (j+1) (by omega) _ _ _ _ (by omega) (λb hb=>(f1 b hb).trans ((en _ _ _ _ (by omega)).trans (hf b hb))) S1) λX e m n w ⟨p1,p2,p3,p4⟩=>⟨p1,by omega,p3,(by simp(disch:=omega)only[fB,eS,eR,and_self,g1,p4])⟩
  ·rw[if_neg h0,SN]at hz;simp(disch:=omega)only[W_,eu,to,IS,hmM,g,oo];exact gR (ih (j+1) (by omega) _ _ _ _ hN hf (by rw[hz];exact hO)) λX e m n w ⟨p1,p2,p3,p4⟩=>⟨p1,by omega,p3,(by simp(disch:=omega)only[fB,eS,eR,and_self,p4])⟩
theorem Jp(hY:jf Y)(hc:Cts m n cv cs)(hS:cs.length<=65536):Kp (fL PG EL Y 173 [.agg #[cv]] m n) m n λv m' n'=>∃R,Exs m' n' v R/\NF R/\sL R=tn cs:=by
 refine gN (R:=λv m' n'=>∃R,Exs m' n' v R/\NF R/\sL R=tn cs) e173 rfl (λ_ _ _ h1 ⟨R,h2,h3⟩=>⟨R,h2.free h1,h3⟩) λQ hQ=>?_;simp only[QE];have o:=hc.one;have l:=hc.len;simp(disch:=omega)only[W_,eu,to,IS,o,l,dW o];refine ic (Rh (n:=n+1) (hc.frame (by omega) λb hb=>gu) hS _ _ _ _ cs.length 0 (by omega) _ _ _ (n+1) (IN _) (λ_ _=>rfl) (.inl ⟨rfl,rfl,rfl⟩)) λX e M' N' r w ⟨⟨ov,z1,z2,hX,he,hS2⟩,p2,p3,p4⟩=>?_;subst hX he;have so:=hS2.one;have h5:=jE p4 (Tf n);have hl:∀s∈tn cs,s<65536:=λs hs=>by have:=(S'.1 (Kj.1 hs)).1;omega
 have hsd:=sd_sg (Dg cs) hl;rw[<-SC (f:=sg)]at hS2;simp(disch:=omega)only[W_,eu,to,IS,so]
 refine fI (sN hY (SlZ.exs hS2) (λx hx=>by
  obtain⟨s,hs,rfl⟩:=Us.1 hx
  exact acC (hl s hs)) (by rw[Ie];exact zh (Dg cs)) (by
  rw[SC]
  exact Tz (Um _ _) (by rw[Wf];omega))) λv1 M1 n1 r1 w1 ⟨k1,f1,g1,R1⟩=>?_
 have o1:=R1.one;simp(disch:=omega)only[W_,eu,to,IS,o1];rw[FV hsd]at R1;obtain⟨q1,q2⟩:=yK hsd;exact hQ _ _ _ _ _ (by omega) (λb hb=>(f1 b (by omega)).trans ((p3 b (by omega)).trans (en _ _ _ _ (by omega)))) (by simp(disch:=omega)only[fB,eS,eR,and_self,h5,g1]) ⟨_,R1,q1,by rw[q2,Ie]⟩
theorem Exs.other{M':FM}{k:Nat}{c:List AT}{o w:Bool}(h:Exs M N v L)(hk:M k=some (.cells c s o w))(hs:s≠3)(hM:∀b,b≠k->M' b=M b):Exs M' N v L:=by
 refine h.imp id λ⟨b,j,rest,opn,wr,h1,h3,h4⟩=>⟨b,j,rest,opn,wr,h1,h3,(hM b ?_).trans h4⟩;rintro rfl;rw[hk]at h4;injection h4 with h4
 injection h4 with _ h4
 exact hs h4
theorem G8{z:Int}(h:0<=z):Pure (fL PG EL Y 254 [.int .i64 z] m n) m n (.bool false):=by refine gC e254 rfl rfl ?_;simp only[Qg];simp(disch:=omega)only[W_,eu,U5,to,AS,By,BY,IS]
theorem ad'(h:Cts m n cv cs)(hL:∀c∈cs,0<=c)(hB:cs.length<=1000000)(e4:AT):
  ∀(d j:Nat),j+d=cs.length->∀(x0 x2:AT) (M:FM) (N:Nat),n<=N->(∀b,b<n->M b=m b)->
  Gv (gD PG EL Y xH [x0,.int .i64 (j:Int),x2,.int .i64 (cs.length:Int),e4,cv,.func (.func 254) #[] #[]] M N) λX e M' N' w=>(∃z0 z1 z2,X=.exit 0/\e=[z0,z1,z2,e4,cv,.func (.func 254) #[] #[]])/\w=0:=by
 have q:=h.gO;have o:=h.one;intro d
 induction d with
 |zero=>intro j hj x0 x2 M N hN hf;refine gA (L:=xH) (b:=rX) rfl ?_;simp only[rX];simp(disch:=omega)only[W_,eu,U5,to,AS,By,BY,IS];exact⟨_,_,_,rfl⟩
 |succ d ih=>intro j hj x0 x2 M N hN hf;have g:=oi (l:=cs) (j:=j) (by omega);have hp:=hL cs[j] (Tb _);refine gA (L:=xH) (b:=rX) rfl ?_;simp only[rX];obtain⟨b,k,opn,wr,rfl,hb,hm⟩:=h;have hmM:=(hf b hb).trans hm;simp(disch:=omega)only[W_,eu,U5,to,AS,By,BY,IS,hmM,g,o,q,oN,nj];refine fF (G8 hp) λr1=>?_;simp(disch:=omega)only[W_,eu,U5,to,AS,By,BY,IS];exact gR (ih (j+1) (by omega) _ _ _ _ hN hf) λX e m n w ⟨p1,p2⟩=>⟨p1,by rw[p2];rfl⟩
theorem NV(h:Cts m n cv cs)(hL:∀c∈cs,0<=c)(hB:cs.length<=1000000):Pure (fL PG EL Y 253 [cv,.func (.func 254) #[] #[]] m n) m n (.bool false):=by
 have h1:Pure (fL PG EL Y 330 [cv,.func (.func 254) #[] #[]] m n) m n (.int .i64 (-1)):=by refine gC e330 rfl rfl ?_;simp only[PC];have l:=h.len;simp(disch:=omega)only[W_,eu,U5,to,AS,By,BY,IS,l];refine ic (ad' h hL hB _ cs.length 0 (by omega) _ _ m n (IN _) λ_ _=>rfl) λX e M' N' r w ⟨⟨z0,z1,z2,hX,he⟩,hw⟩=>?_;subst hX he hw;simp(disch:=omega)only[W_,eu,U5,to,AS,By,BY,IS]
 refine gC e253 rfl rfl ?_;simp only[Qh];simp(disch:=omega)only[W_,eu,U5,to,AS,By,BY,IS];refine fF h1 λr1=>?_;simp(disch:=omega)only[W_,eu,U5,to,AS,By,BY,IS]
def frd(cs:List Int)(sl:List Nat):List Nat:=sl.filter λs=>cs[s]?==some 0
theorem NW(cs:List Int)(sl:List Nat)(h:s<cs.length):frd cs (sl++[s])=frd cs sl++(if cs[s]=0 then[s]else[]):=by
 unfold frd;rw[U7]
 congr 1
 by_cases hc:cs[s]=0<;>simp[h,hc]
theorem abI(h:SlZ 3 M n0 N v L.length (exC L))(x:Ex)(ya:Option VD)(yc ry:Nat)(h0:n0<=N)(hl:L.length<=1000000):
  Rt (nl 3 24 M N v (.slice ya 1 yc) (shown M N 3 v) (some ([.int .i64 (x.a:Int),.int .i64 (x.n:Int),.int .i64 (x.s:Int)],ry))) λv' M' N' w=>N'=N+1/\SlZ 3 M' n0 N' v' (L++[x]).length (exC (L++[x]))/\(∀b,b<n0->M' b=M b)/\(∀j,j<=n0->SL w (bit j)=0)/\∀b,b<N->(∀c,M b≠some (.cells c 3 true true))->M' b=M b:=by
 have h1:=rQ h x ya yc ry h0 hl;obtain⟨v',M',N',r,w,hx,a1,a2,a3,a4⟩:=h1.some;rw[hx];refine⟨a1,a2,a3,a4,λb hb hk=>?_⟩;have hz:([.int .i64 (x.a:Int),.int .i64 (x.n:Int),.int .i64 (x.s:Int)]:List AT).all Am.one=true:=rfl;rcases h with⟨hL0,hE,rfl⟩|⟨hp,hcl,bx,rfl,hbx,hbN,hM⟩
 ·rw[mg,j9,j8,hz,gI (show 0<3 by omega),gI (show 0<24 by omega),iq (show(0+1)*24<=140737488355328 by omega),nu (by omega)]at hx;injection hx with e1 e2 e3 e4 e5
  rw[<-e2];exact en _ _ _ _ (by omega)
 ·rw[jL hp,ig hbN,hM,jr,UA,ja,kT,lD hcl.symm]at hx;replace hx:nl 3 24 M N _ _ (some (exC L,bit bx)) _=_:=hx;rw[j9,j8,hz,gI (show 0<3 by omega),gI (show 0<24 by omega),iq (show(L.length+1)*24<=140737488355328 by omega),np,ig hbN,hM,pd]at hx;injection hx with e1 e2 e3 e4 e5
  rw[<-e2,en _ _ _ _ (by omega),en _ _ _ _ (by rintro rfl;exact hk _ hM)]
theorem aa4{m:FM}{xb:Nat}(hob:ob<n)(hm:m ob=some (.cells [cv] 0 false true))(hc:Cts m n cv cs)(hb:cs.length<=65536){x:Ex}(hx:x.s+x.n<=cs.length){pre:List Nat}(hp:pre.length+x.n<=1000000)(hxb:n<=xb)(u2 u5 u6 u7 u8 u9 u10 u11 e4 e5 e7 e8 e9 e10 e11 e12 lv:AT):
  ∀(d i:Nat),i+d=x.n->∀(fv:AT) (M:FM) (N:Nat),xb<N->(∀b,b<n->M b=m b)->M xb=some (.cells [.int .i64 (x.a:Int),.int .i64 (x.n:Int),.int .i64 (x.s:Int)] 0 false true)->SlZ 3 M n N fv (frd cs (pre++slX x i)).length (exC ((frd cs (pre++slX x i)).map sg))->
  Gv (gD PG EL Y xU [fv,.int .i64 ((x.s+i:Nat):Int),u2,.pointer (some ⟨xb,2,none⟩),.pointer (some ⟨xb,0,none⟩),u5,u6,u7,u8,u9,u10,u11,e4,e5,.pointer (some ⟨ob,0,none⟩),e7,e8,e9,e10,e11,e12,lv] M N) λX e M' N' w=>(∃fv' z,X=.exit 2/\e=[fv',z,u2,.pointer (some ⟨xb,2,none⟩),.pointer (some ⟨xb,0,none⟩),u5,u6,u7,u8,u9,u10,u11,e4,e5,.pointer (some ⟨ob,0,none⟩),e7,e8,e9,e10,e11,e12,lv]/\SlZ 3 M' n N' fv' (frd cs (pre++slo x.pr)).length (exC ((frd cs (pre++slo x.pr)).map sg)))/\N<=N'/\(∀b,b<n->M' b=m b)/\SL w (bit n)=0:=by
 have oc:=hc.one;intro d
 induction d with
 |zero=>
  intro i hi fv M N hN hf h1 hO;refine gA (L:=xU) (b:=sy) rfl ?_;simp only[sy];obtain rfl:i=x.n:=by omega
  rw[ui]at hO;simp(disch:=omega)only[W_,eu,U5,to,AS,By,BY,IS,h1];exact⟨⟨_,_,rfl,hO⟩,IN _,hf⟩
 |succ d ih=>
  intro i hi fv M N hN hf h1 hO;refine gA (L:=xU) (b:=sy) rfl ?_;simp only[sy];have hs:x.s+i<cs.length:=by omega
  have hmo:=(hf ob hob).trans hm;have g:=oi hs;have hz:=NW cs (pre++slX x i) hs;rw[S6,<-q']at hz;have of:=hO.one;obtain⟨b,k,opn,wr,rfl,hb1,hm1⟩:=id hc;have hmM:=(hf b hb1).trans hm1;have hfl:(frd cs (pre++slX x i)).length<=1000000:=Tz (Um _ _) (by simp[slX];omega);by_cases h0:cs[x.s+i]=0
  ·rw[h0]at g;rw[if_pos h0]at hz;simp(disch:=omega)only[W_,eu,U5,to,AS,By,BY,IS,h1,hmo,hmM,g,of];rw[<-SC (f:=sg)]at hO;refine fI (abI (hO.frame (N':=N+1) (by omega) λb _ hb=>gu) (sg (x.s+i)) _ _ _ (by omega) (by rw[SC];omega)) λv1 M1 n1 r1 w1 ⟨hn1,S1,f1,g1,t1⟩=>?_;subst hn1;rw[show(frd cs (pre++slX x i)).map sg++[sg (x.s+i)]=(frd cs (pre++slX x (i+1))).map sg by rw[hz,Uu];rfl,SC]at S1;have q1:(If M N (some (.cells [.int .i64 0,.int .i64 1,.int .i64 ((x.s+i:Nat):Int)] 3 false true)):FM) xb=some (.cells [.int .i64 (x.a:Int),.int .i64 (x.n:Int),.int .i64 (x.s:Int)] 0 false true):=(en _ _ _ _ (by omega)).trans h1;have q2:=(t1 xb (by omega) (λc h=>by rw[q1]at h;injection h with h;injection h with _ h;cases h)).trans q1;simp(disch:=omega)only[W_,eu,U5,to,AS,By,BY,IS];exact gR (ih (i+1) (by omega) _ _ _ (by omega) (λb hb=>(f1 b hb).trans ((en _ _ _ _ (by omega)).trans (hf b hb))) q2 S1) λX e m n w ⟨p1,p2,p3,p4⟩=>⟨p1,by omega,p3,(by simp(disch:=omega)only[fB,eS,eR,and_self,g1,p4])⟩
  ·rw[if_neg h0,SN]at hz;simp(disch:=omega)only[W_,eu,U5,to,AS,By,BY,IS,h1,hmo,hmM,g,of];exact gR (ih (i+1) (by omega) _ _ _ hN hf h1 (by rw[hz];exact hO)) λX e m n w ⟨p1,p2,p3,p4⟩=>⟨p1,by omega,p3,(by simp(disch:=omega)only[fB,eS,eR,and_self,p4])⟩
theorem aa3{n:Nat}{ob:Nat}(hob:ob<n)(hm:m ob=some (.cells [cv] 0 false true))(hc:Cts m n cv cs)(hL:Exs m n lv L)(hb:cs.length<=65536)(hl:∀x∈L,1<=x.n/\x.s+x.n<=cs.length)(hn:lens L<=1000000)(hll:L.length<=1000000)(e4 e5 e7 e8 e9 e10 e11 e12:AT):
  ∀(d j:Nat),j+d=L.length->∀(fv x2:AT) (M:FM) (N:Nat),n<=N->(∀b,b<n->M b=m b)->SlZ 3 M n N fv (frd cs (sL (L.take j))).length (exC ((frd cs (sL (L.take j))).map sg))->
  Gv (gD PG EL Y xT [fv,.int .i64 (j:Int),x2,.int .i64 (L.length:Int),e4,e5,.pointer (some ⟨ob,0,none⟩),e7,e8,e9,e10,e11,e12,lv] M N) λX e M' N' w=>(∃fv' z1 z2,X=.exit 0/\e=[fv',z1,z2,e4,e5,.pointer (some ⟨ob,0,none⟩),e7,e8,e9,e10,e11,e12,lv]/\SlZ 3 M' n N' fv' (frd cs (sL L)).length (exC ((frd cs (sL L)).map sg)))/\N<=N'/\(∀b,b<n->M' b=m b)/\SL w (bit n)=0:=by
 have q:=hL.gO;have o:=hL.one;have oc:=hc.one;intro d
 induction d with
 |zero=>
  intro j hj fv x2 M N hN hf hO;refine gA (L:=xT) (b:=sx) rfl ?_;simp only[sx];obtain rfl:j=L.length:=by omega
  rw[UE]at hO;simp(disch:=omega)only[W_,eu,U5,to,AS,By,BY,IS];exact⟨⟨_,_,_,rfl,hO⟩,IN _,hf⟩
 |succ d ih=>
  intro j hj fv x2 M N hN hf hO;obtain⟨b,rest,opn,wr,hi,hb1,hm1⟩:=hL.at (by omega);have hmM:=(hf b hb1).trans hm1;obtain⟨c1,c2,c3,c4⟩:=jF (l:=L) (j:=j) rest (by omega);obtain⟨h1,h2⟩:=hl L[j] (Tb _);refine gA (L:=xT) (b:=sx) rfl ?_;simp only[sx];have of:=hO.one;have htk:sL (L.take (j+1))=sL (L.take j)++slo L[j].pr:=by rw[Th (by omega),jt,iM,lI,SN]
  have hpre:(sL (L.take j)).length+L[j].n<=1000000:=by
   rw[iY];have h1:lens L=lens (L.take j)+lens (L.drop j):=by rw[<-gF,UH]
   rw[Tx (by omega),gH]at h1;omega
  simp(disch:=omega)only[W_,eu,U5,to,AS,By,BY,IS,hi j (by omega),hmM,c1,o,q,of];have hO2:=hO.frame (M':=(If M N (some (.cells [.int .i64 (L[j].a:Int),.int .i64 (L[j].n:Int),.int .i64 (L[j].s:Int)] 0 false true)):FM)) (N':=N+1) (by omega) λb _ hb=>gu;have hl0:=aa4 (Y:=Y) (m:=m) (xb:=N) (pre:=sL (L.take j)) hob hm hc hb h2 hpre hN (.int .i64 (L[j].s:Int)) (.agg #[.int .i64 (L[j].a:Int),.int .i64 (L[j].n:Int),.int .i64 (L[j].s:Int)]) (.pointer (some ⟨b,j*3,none⟩)) (.bool true) fv (.int .i64 (j:Int)) x2 (.int .i64 (L.length:Int)) e4 e5 e7 e8 e9 e10 e11 e12 lv L[j].n 0 (by omega) fv _ (N+1) (by omega) (λb hb=>gJ (by omega) (hf b hb)) (eB _ _ _) (by simpa[slX]using hO2);rw[Ve]at hl0;refine ic hl0 λX e M' N' r w ⟨⟨fv',z,hX,he,hS⟩,p2,p3,p4⟩=>?_;subst hX he;rw[<-htk]at hS;simp(disch:=omega)only[W_,eu,U5,to,AS,By,BY,IS];exact gR (ih (j+1) (by omega) _ _ _ _ (by omega) p3 hS) λX e m n w ⟨q1,q2,q3,q4⟩=>⟨q1,by omega,q3,(by simp(disch:=omega)only[fB,eS,eR,and_self,p4,q4])⟩
theorem vM(hY:jf Y)(hc:Cts m n cv cs)(hL:Exs m n lv L)(h0:0<cs.length)(hb:cs.length<=65536)(hl:∀x∈L,1<=x.n/\x.s+x.n<=cs.length)(hn:lens L<=65536)(hll:L.length<=1000000)(hcs:∀c∈cs,-100000000<=c/\c<=100000000)(hnd:(sL L).Nodup)(hge:∀c∈chg (-1) cs (sL L),0<=c):
  Kp (fL PG EL Y 169 [.agg #[cv],lv] m n) m n λv m' n'=>∃cv' fv F,v=.tuple #[.agg #[cv'],fv,.int .i64 0]/\Cts m' n' cv' (chg (-1) cs (sL L))/\Exs m' n' fv F:=by
 refine gG (R:=λv m' n'=>∃cv' fv F,v=.tuple #[.agg #[cv'],fv,.int .i64 0]/\Cts m' n' cv' (chg (-1) cs (sL L))/\Exs m' n' fv F) e169 rfl λQ hQ=>?_;simp only[QI];have o:=hL.one;have l:=hL.len;have q:=hL.gO;have o1:=hc.one;simp(disch:=omega)only[W_,eu,U5,to,AS,By,BY,IS,o,o1,dW o1];have fr:∀b,b<n->(If (If m n (some (.cells [cv] 0 false true))) (n+1) (some (.cells [.slice none 0 0] 0 false true)):FM) b=m b:=λb hb=>(en _ _ _ _ (by omega)).trans (en _ _ _ _ (by omega));refine fF (rj (hc.frame (N':=n+2) (by omega) fr) hb (hL.frame (by omega) fr) hl hll) λr1=>?_;simp(disch:=omega)only[W_,eu,U5,to,AS,By,BY,IS,o,o1];refine fI (uQ (k:=-1) (hc.frame (N':=n+2) (by omega) fr) (hL.frame (by omega) fr) rfl h0 hb (.inr rfl) (λx hx=>(hl x hx).2) (by omega) hll hcs) λv1 M1 n1 r1 w1 ⟨k1,f1,g1,cv',hv1,C1⟩=>?_;subst hv1;replace C1:Cts M1 n1 cv' (chg (-1) cs (sL L)):=C1;have o2:=C1.one;simp(disch:=omega)only[W_,eu,U5,to,AS,By,BY,IS,o2,dW o2];refine fF (NV (C1.frame (N':=n1+1) (by omega) λb hb=>gu) hge (by rw[jH];omega)) λr2=>?_;simp(disch:=omega)only[W_,eu,U5,to,AS,By,BY,IS,l];have fr1:∀b,b<n1->(If M1 n1 (some (.cells [cv'] 0 false true)):FM) b=M1 b:=λb hb=>gu;refine ic (aa3 (n:=n1+1) (ob:=n1) (by omega) (eB _ _ _) (C1.frame (by omega) fr1) (hL.frame (by omega) λb hb=>(fr1 b (by omega)).trans ((f1 b (by omega)).trans (fr b hb))) (by rw[jH];exact hb) (by rw[jH];exact hl) (by omega) hll _ _ _ _ _ _ _ _ L.length 0 (by omega) _ _ _ (n1+1) (IN _) (λ_ _=>rfl) (.inl ⟨rfl,rfl,rfl⟩)) λX e M3 N3 r3 w3 ⟨⟨fv,z1,z2,hX,he,hS⟩,p2,p3,p4⟩=>?_;subst hX he;have of:=hS.one;have qf:=hS.bel;have h5:=jE p4 (show n<=n1+1 by omega);have u0:=(p3 n1 (by omega)).trans (eB M1 n1 (some (.cells [cv'] 0 false true)));rw[<-SC (f:=sg)]at hS;have hfl:∀s∈frd (chg (-1) cs (sL L)) (sL L),s<cs.length:=λs hs=>by obtain⟨x,hx,h6,h7⟩:=tN.1 (TY.1 hs).1;have:=hl x hx;omega
 have hfn:(frd (chg (-1) cs (sL L)) (sL L)).Nodup:=hnd.filter _;have hfk:(frd (chg (-1) cs (sL L)) (sL L)).length<=65536:=Tz (Um _ _) (by rw[iY];omega);simp(disch:=omega)only[W_,eu,U5,to,AS,By,BY,IS,u0,o2,of,qf]
 refine gP (sN hY (SlZ.exs hS) (λx hx=>by
  obtain⟨s,hs,rfl⟩:=Us.1 hx
  exact acC (by have:=hfl s hs;omega)) (by rw[Ie];exact hfn) (by rw[SC];omega)) λv4 M4 n4 r4 w4 ⟨k4,f4,g4,R4⟩=>?_
 have o4:=R4.one;have q4:=R4.gO;have L4:=gE (g4 (n1+1) (by omega)) (Td n1);have u4:M4 (n+1)=some (.cells [.slice none 0 0] 0 false true):=(f4 (n+1) (by omega)).trans ((p3 (n+1) (by omega)).trans ((fr1 (n+1) (by omega)).trans ((f1 (n+1) (by omega)).trans (eB _ _ _))));have C4:=C1.frame (M':=M4) (N':=n4) (by omega) λb hb=>(f4 b (by omega)).trans ((p3 b (by omega)).trans (fr1 b hb));have qc:=C4.gU;simp(disch:=omega)only[W_,eu,U5,to,AS,By,BY,IS,o4,q4,L4.1,L4.2,u4,o2,dW o2,qc];refine hQ _ _ _ _ _ (by omega) (λb hb=>by rw[en _ _ _ _ (by omega),f4 b (by omega),p3 b (by omega),fr1 b (by omega),f1 b (by omega),fr b hb]) (by simp(disch:=omega)only[fB,eS,eR,and_self,g1,h5,g4]) rfl ⟨cv',v4,_,rfl,C4.other u4 (by simp) λb hb=>en _ _ _ _ hb,R4.other u4 (by simp) λb hb=>en _ _ _ _ hb⟩
def lP(v:AT)(b:Nat):Prop:=∀l k,v≠.slice (some ⟨b,0,none⟩) l k
theorem xA{n0:Nat}{K:List Ex}(h:SlZ 3 M n0 N v L.length (exC L))(ya:Option VD)(yc ry:Nat)(h0:n0<=N)(hl:L.length+K.length<=1000000):
  Rt (nl 3 24 M N v (.slice ya K.length yc) (shown M N 3 v) (some (exC K,ry))) λv' M' N' w=>N<=N'/\N'<=N+1/\SlZ 3 M' n0 N' v' (L++K).length (exC (L++K))/\(∀b,b<n0->M' b=M b)/\(∀j,j<=n0->SL w (bit j)=0)/\(∀b,b<N->lP v b->M' b=M b)/\(∀b,b<N->lP v b->lP v' b):=by
 rcases h with⟨hL0,hE,rfl⟩|⟨hp,hcl,bx,rfl,hbx,hbN,hM⟩
 ·obtain rfl:=SV.1 hL0;rw[mg,j9,j8,show(exC K,ry).1.all Am.one=true from tb K,gI (show 0<3 by omega),gI (show 0<24 by omega),iq (show(0+K.length)*24<=140737488355328 by omega)];rcases Ug K.length with h1|h1
  ·obtain rfl:=SV.1 h1;exact⟨IN _,Tf _,.inl ⟨rfl,rfl,rfl⟩,λ_ _=>rfl,λj _=>Wa _,λ_ _ _=>rfl,λ_ _ h=>h⟩
  ·show Rt (xd M N 3 0 K.length 0 [] (exC K) _ none) _;rw[nu h1];refine⟨Tf _,IN _,.inr ⟨by simpa using h1,jA _,N,?_,h0,Td _,?_⟩,λb hb=>gu,λj hj=>eS (by omega),λb hb _=>gu,λb hb _ l k e=>?_⟩
   ·rw[TU];rfl
   ·exact eB _ _ _
   ·injection e with e;injection e with e;injection e with e;omega
 ·rw[jL hp,ig hbN,hM,jr,UA,ja,kT,lD hcl.symm];show Rt (nl 3 24 M N _ _ (some (exC L,bit bx)) _) _;rw[j9,j8,show(exC K,ry).1.all Am.one=true from tb K,gI (show 0<3 by omega),gI (show 0<24 by omega),iq (show(L.length+K.length)*24<=140737488355328 by omega),np,ig hbN,hM,pd];refine⟨Tf _,IN _,.inr ⟨by rw[IT];omega,jA _,N,by rw[IT],h0,Td _,by rw[nM];exact eB _ _ _⟩,λb hb=>by rw[en _ _ _ _ (by omega),en _ _ _ _ (by omega)],λj hj=>(by simp(disch:=omega)only[fB,eS,eR,and_self]),λb hb hk=>by rw[en _ _ _ _ (by omega),en _ _ _ _ (by rintro rfl;exact hk _ _ rfl)],λb hb _ l k e=>?_⟩;injection e with e;injection e with e;injection e with e;omega
theorem SlZ.kZ(h:SlZ 3 M n0 N v L.length (exC L))(hN:N<=N')(hu:∀b,b<N->¬lP v b->lP u b)(hf:∀b,b<N->lP u b->M' b=M b):SlZ 3 M' n0 N' v L.length (exC L):=by
 rcases h with h|⟨h0,hl,b,rfl,h2,h3,h4⟩
 ·exact .inl h
 ·exact .inr ⟨h0,hl,b,rfl,h2,by omega,(hf b h3 (hu b h3 λh=>h _ _ rfl)).trans h4⟩
theorem re(a b:Nat)(h:a<=b)(hb:b<=1000000000):Pure (fL PG EL Y 389 [.int .i64 (a:Int),.int .i64 (b:Int)] m n) m n (.agg (Ex.cs ⟨0,b-a,a⟩).toArray):=by refine gC e389 rfl rfl ?_;simp only[Pk,Ex.cs];simp(disch:=omega)only[W_,eu,to];rfl
theorem mq(x:Ex)(h:x.small):Pure (fL PG EL Y 387 [.agg x.cs.toArray] m n) m n (.int .i64 ((x.s+x.n:Nat):Int)):=by refine gC e387 rfl rfl ?_;unfold Ex.small at h;simp only[Pl,Ex.cs];simp(disch:=omega)only[W_,eu,to]
theorem RS(h:Exs m n v L)(hs:lens L<=1000000)(hB:L.length<=1000000)(e4 e5:AT):
  ∀(d j:Nat),j+d=L.length->∀(x2:AT) (M:FM) (N:Nat),n<=N->(∀b,b<n->M b=m b)->
  Gv (gD PG EL Y xD [.int .i64 (lens (L.take j):Int),.int .i64 (j:Int),x2,.int .i64 (L.length:Int),e4,e5,v] M N) λX e M' N' w=>(∃z1 z2,X=.exit 0/\e=[.int .i64 (lens L:Int),z1,z2,e4,e5,v])/\SL w (bit n)=0:=by
 have q:=h.gO;have o:=h.one;intro d
 induction d with
 |zero=>
  intro j hj x2 M N hN hf;refine gA (L:=xD) (b:=rT) rfl ?_;simp only[rT];obtain rfl:j=L.length:=by omega
  rw[UE];simp(disch:=omega)only[W_,eu,to];exact⟨_,_,rfl⟩
 |succ d ih=>
  intro j hj x2 M N hN hf;obtain⟨b,rest,opn,wr,hi,hb,hm⟩:=h.at (by omega);have hmM:=(hf b hb).trans hm;obtain⟨c1,c2,c3,c4⟩:=jF (l:=L) (j:=j) rest (by omega);have h1:lens L=lens (L.take j)+lens (L.drop j):=by rw[<-gF,UH]
  rw[Tx (by omega),gH]at h1;have h2:lens (L.take (j+1))=lens (L.take j)+L[j].n:=by rw[Th (by omega),gF,gH,jC,Ve]
  refine gA (L:=xD) (b:=rT) rfl ?_;simp only[rT];simp(disch:=omega)only[W_,eu,to,hi j (by omega),hmM,c1,o,q];rw[<-h2];exact gR (ih (j+1) (by omega) _ _ _ (by omega) (λk hk=>gJ (by omega) (hf k hk))) λX e m n w ⟨p1,p2⟩=>⟨p1,(by simp(disch:=omega)only[fB,eS,eR,and_self,p2])⟩
theorem jW(h:Exs m n v L)(hs:lens L<=1000000)(hB:L.length<=1000000):Pure (fL PG EL Y 349 [v] m n) m n (.int .i64 (lens L:Int)):=by refine gC e349 rfl rfl ?_;simp only[Pv];have l:=h.len;simp(disch:=omega)only[W_,eu,to,l];refine ic (RS h hs hB _ _ L.length 0 (by omega) _ m n (IN _) λ_ _=>rfl) λX e M' N' r w ⟨⟨z1,z2,hX,he⟩,hw⟩=>?_;subst hX he;simp(disch:=omega)only[W_,eu,to,hw]
theorem uO(t:Nat)(A:List Ex)(x:Ex):clF t (A++[x])=clF t A++(if t<x.s+x.n then[⟨0,x.s+x.n-UR x.s t,UR x.s t⟩]else[]):=by simp[clF,WQ]
theorem EX(t:Nat)(A:List Ex)(x:Ex):clB t (A++[x])=clB t A++(if x.s<t then[⟨0,Tg (x.s+x.n) t-x.s,x.s⟩]else[]):=by simp[clB,WQ]
theorem tf(t:Nat):∀L:List Ex,(clF t L).length<=L.length
 |[]=>IN _
 |x::L=>by have:=tf t L;rw[show clF t (x::L)=(if t<x.s+x.n then[⟨0,x.s+x.n-UR x.s t,UR x.s t⟩]else[])++clF t L from TO,IT,SA];split<;>simp<;>omega
theorem CH(t:Nat):∀L:List Ex,(clB t L).length<=L.length
 |[]=>IN _
 |x::L=>by have:=CH t L;rw[show clB t (x::L)=(if x.s<t then[⟨0,Tg (x.s+x.n) t-x.s,x.s⟩]else[])++clB t L from TO,IT,SA];split<;>simp<;>omega
structure Duo(M:FM)(n0 N:Nat)(v:AT)(L:List Ex)(u:AT)(K:List Ex):Prop where
 a:SlZ 3 M n0 N v L.length (exC L)
 b:SlZ 3 M n0 N u K.length (exC K)
 c:∀b,b<N->¬lP v b->lP u b
theorem Duo.frame{M':FM}{n0 N N':Nat}(h:Duo M n0 N v L u K)(hN:N<=N')(hf:∀b,b<N->M' b=M b):Duo M' n0 N' v L u K:=by
 refine⟨h.a.frame hN λb _ hb=>hf b hb,h.b.frame hN λb _ hb=>hf b hb,λb hb hv=>?_⟩;by_cases hbN:b<N
 ·exact h.c b hbN hv
 ·exfalso;apply hv;rintro l k rfl;rcases h.a with⟨_,_,e⟩|⟨_,_,b',e,_,hb',_⟩
  ·cases e
  ·injection e with e;injection e with e;injection e with e;omega
theorem Duo.swap(h:Duo M n0 N v L u K):Duo M n0 N u K v L:=⟨h.b,h.a,λb hb hu=>Vb λhv=>hu (h.c b hb hv)⟩
theorem Duo.app(h:Duo M n0 N v L u K)(x:Ex)(ya:Option VD)(yc ry:Nat)(h0:n0<=N)(hl:L.length<=900000):
  Rt (nl 3 24 M N v (.slice ya 1 yc) (shown M N 3 v) (some ([.int .i64 (x.a:Int),.int .i64 (x.n:Int),.int .i64 (x.s:Int)],ry))) λv' M' N' w=>N<=N'/\Duo M' n0 N' v' (L++[x]) u K/\(∀b,b<n0->M' b=M b)/\(∀j,j<=n0->SL w (bit j)=0)/\∀b,b<N->lP v b->M' b=M b:=by
 refine(xA (K:=[x]) h.a ya yc ry h0 (by simp;omega)).mono λv' M' N' w ⟨a1,a2,a3,a4,a5,a6,a7⟩=>⟨a1,⟨a3,SlZ.kZ h.b a1 (λb hb hu=>Vb λhv=>hu (h.c b hb hv)) a6,λb hb hv'=>?_⟩,a4,a5,a6⟩;by_cases hbN:b<N
 ·refine Vb λhu=>hv' ?_;exact a7 b hbN (Vb λhv=>hu (h.c b hbN hv))
 ·rintro l k rfl;rcases h.b with⟨_,_,e⟩|⟨_,_,b',e,_,hb',_⟩
  ·cases e
  ·injection e with e;injection e with e;injection e with e;omega
theorem SlZ.lP{b:Nat}(h:SlZ 3 M n0 N v L.length (exC L))(hb:N<=b):lP v b:=by
 rintro l k rfl;rcases h with⟨_,_,e⟩|⟨_,_,b',e,_,hb',_⟩
 ·cases e
 ·injection e with e;injection e with e;injection e with e;omega
set_option maxHeartbeats 2000000 in
theorem abt(hL:Exs m n lv L)(hs:∀x∈L,x.s+x.n<=65536)(ha:∀x∈L,x.a<=1000000000)(ht:t<=1000000)(hB:L.length<=100000)(e6 e7:AT):
  ∀(d j:Nat),j+d=L.length->∀(bv fv x3:AT) (M:FM) (N:Nat),n<=N->(∀b,b<n->M b=m b)->Duo M n N fv (clF t (L.take j)) bv (clB t (L.take j))->
  Gv (gD PG EL Y xC [fv,bv,.int .i64 (j:Int),x3,.int .i64 (L.length:Int),e6,e7,lv,.int .i64 (t:Int)] M N) λX e M' N' w=>(∃fv' bv' z1 z2,X=.exit 0/\e=[fv',bv',z1,z2,e6,e7,lv,.int .i64 (t:Int)]/\Duo M' n N' fv' (clF t L) bv' (clB t L))/\N<=N'/\(∀b,b<n->M' b=m b)/\SL w (bit n)=0:=by
 have q:=hL.gO;have o:=hL.one;intro d
 induction d with
 |zero=>
  intro j hj bv fv x3 M N hN hf hO;refine gA (L:=xC) (b:=rS) rfl ?_;simp only[rS];obtain rfl:j=L.length:=by omega
  rw[UE]at hO;simp(disch:=omega)only[W_,eu,U5,to,AS,By,BY,IS];exact⟨⟨_,_,_,_,rfl,hO⟩,IN _,hf⟩
 |succ d ih=>
  intro j hj bv fv x3 M N hN hf hO;obtain⟨b,rest,opn,wr,hi,hb,hm⟩:=hL.at (by omega);have hmM:=(hf b hb).trans hm;obtain⟨c1,c2,c3,c4⟩:=jF (l:=L) (j:=j) rest (by omega);refine gA (L:=xC) (b:=rS) rfl ?_;simp only[rS];have of:=hO.a.one;have ob:=hO.b.one;have qf:=hO.a.bel;have qb:=hO.b.bel;have hx:=hs L[j] (Tb _);have hsm:L[j].small:=by unfold Ex.small;exact⟨ha L[j] (Tb _),by omega,by omega⟩
  have htk:L.take (j+1)=L.take j++[L[j]]:=Th (by omega);have t0:=eB M N (some (.cells [.int .i64 (L[j].a:Int),.int .i64 (L[j].n:Int),.int .i64 (L[j].s:Int)] 0 false true));have fx:∀k,k<N->(If M N (some (.cells [.int .i64 (L[j].a:Int),.int .i64 (L[j].n:Int),.int .i64 (L[j].s:Int)] 0 false true)):FM) k=M k:=λk hk=>gu;by_cases c:L[j].s<t
  ·have hcB:=EX t (L.take j) L[j];rw[if_pos c,<-htk]at hcB;have hmn:=zd (P:=PG) (L[j].s+L[j].n) t;simp(disch:=omega)only[W_,eu,U5,to,AS,By,BY,IS,hi j (by omega),hmM,c1,o,q,of,ob,qf,qb];refine gS (mq L[j] hsm) λr1=>?_;simp(disch:=omega)only[W_,eu,U5,to,AS,By,BY,IS,of,ob,qf,qb,AF,hmn];refine gS (re L[j].s (Tg (L[j].s+L[j].n) t) (Nat.le_min.2 ⟨by omega,by omega⟩) (Tz (Nat.min_le_right _ _) (by omega))) λr2=>?_;simp(disch:=omega)only[W_,eu,U5,to,AS,By,BY,IS,of,ob,qf,qb,Ex.cs];revert t0 fx;generalize (If M N (some (.cells [.int .i64 (L[j].a:Int),.int .i64 (L[j].n:Int),.int .i64 (L[j].s:Int)] 0 false true)):FM)=M0;intro t0 fx;refine gP (((hO.frame (N':=N+1) (by omega) fx).frame (M':=If M0 (N+1) (some (.cells [.int .i64 0,.int .i64 ((Tg (L[j].s+L[j].n) t-L[j].s:Nat):Int),.int .i64 (L[j].s:Int)] 3 false true))) (N':=N+2) (by omega) λk hk=>gu).swap.app ⟨0,Tg (L[j].s+L[j].n) t-L[j].s,L[j].s⟩ _ _ _ (by omega) (by have:=CH t (L.take j);rw[Vp]at this;omega)) λv5 M5 n5 r5 w5 ⟨k5,D5,f5,g5,t5⟩=>?_;rw[<-hcB]at D5;have of5:=D5.b.one;have ob5:=D5.a.one;have qf5:=D5.b.bel;have qb5:=D5.a.bel;have u5:=(t5 N (by omega) (SlZ.lP hO.b (IN _))).trans ((en M0 (N+1) N _ (by omega)).trans t0);have h5:∀k,k<n->M5 k=m k:=λk hk=>(f5 k hk).trans ((en _ _ _ _ (by omega)).trans ((fx k (by omega)).trans (hf k hk)));have D5':=D5.swap;by_cases c2:t<L[j].s+L[j].n
   ·have hcF:=uO t (L.take j) L[j];rw[if_pos c2,<-htk]at hcF;have hmx:=zb L[j].s t;simp(disch:=omega)only[W_,eu,U5,to,AS,By,BY,IS,u5,of5,ob5,qf5,qb5];refine fF (mq L[j] hsm) λr7=>?_;simp(disch:=omega)only[W_,eu,U5,to,AS,By,BY,IS,u5,of5,ob5,qf5,qb5,hmx];refine gS (mq L[j] hsm) λr8=>?_;simp(disch:=omega)only[W_,eu,U5,to,AS,By,BY,IS,u5,of5,ob5,qf5,qb5];refine gS (re (UR L[j].s t) (L[j].s+L[j].n) (Nat.max_le.2 ⟨by omega,by omega⟩) (by omega)) λr9=>?_;simp(disch:=omega)only[W_,eu,U5,to,AS,By,BY,IS,u5,of5,ob5,qf5,qb5,Ex.cs];refine gP ((D5'.frame (N':=n5+1) (by omega) λk hk=>gu).app ⟨0,L[j].s+L[j].n-UR L[j].s t,UR L[j].s t⟩ _ _ _ (by omega) (by have:=tf t (L.take j);rw[Vp]at this;omega)) λv6 M6 n6 r6 w6 ⟨k6,D6,f6,g6,t6⟩=>?_;rw[<-hcF]at D6;have of6:=D6.a.one;have ob6:=D6.b.one;have qf6:=D6.a.bel;have qb6:=D6.b.bel;simp(disch:=omega)only[W_,eu,U5,to,AS,By,BY,IS,of6,ob6,qf6,qb6];exact gR (ih (j+1) (by omega) _ _ _ _ _ (by omega) (λk hk=>(f6 k hk).trans ((en _ _ _ _ (by omega)).trans (h5 k hk))) D6) λX e m n w ⟨p1,p2,p3,p4⟩=>⟨p1,by omega,p3,(by simp(disch:=omega)only[fB,eS,eR,and_self,g5,g6,p4])⟩
   ·have hcF:=uO t (L.take j) L[j];rw[if_neg c2,SN,<-htk]at hcF;simp(disch:=omega)only[W_,eu,U5,to,AS,By,BY,IS,u5,of5,ob5,qf5,qb5];refine fF (mq L[j] hsm) λr7=>?_;simp(disch:=omega)only[W_,eu,U5,to,AS,By,BY,IS,u5,of5,ob5,qf5,qb5];have D6:=D5';rw[<-hcF]at D6;exact gR (ih (j+1) (by omega) _ _ _ _ _ (by omega) h5 D6) λX e m n w ⟨p1,p2,p3,p4⟩=>⟨p1,by omega,p3,(by simp(disch:=omega)only[fB,eS,eR,and_self,g5,p4])⟩
  ·have hcB:=EX t (L.take j) L[j];rw[if_neg c,SN,<-htk]at hcB;simp(disch:=omega)only[W_,eu,U5,to,AS,By,BY,IS,hi j (by omega),hmM,c1,o,q,of,ob,qf,qb];revert t0 fx;generalize (If M N (some (.cells [.int .i64 (L[j].a:Int),.int .i64 (L[j].n:Int),.int .i64 (L[j].s:Int)] 0 false true)):FM)=M0;intro t0 fx;have D5':=hO.frame (N':=N+1) (by omega) fx;have h5:∀k,k<n->M0 k=m k:=λk hk=>(fx k (by omega)).trans (hf k hk);by_cases c2:t<L[j].s+L[j].n
   ·have hcF:=uO t (L.take j) L[j];rw[if_pos c2,<-htk]at hcF;have hmx:=zb L[j].s t;refine fF (mq L[j] hsm) λr7=>?_;simp(disch:=omega)only[W_,eu,U5,to,AS,By,BY,IS,t0,of,ob,qf,qb,hmx];refine gS (mq L[j] hsm) λr8=>?_;simp(disch:=omega)only[W_,eu,U5,to,AS,By,BY,IS,t0,of,ob,qf,qb];refine gS (re (UR L[j].s t) (L[j].s+L[j].n) (Nat.max_le.2 ⟨by omega,by omega⟩) (by omega)) λr9=>?_;simp(disch:=omega)only[W_,eu,U5,to,AS,By,BY,IS,t0,of,ob,qf,qb,Ex.cs];refine gP ((D5'.frame (N':=(N+1)+1) (by omega) λk hk=>gu).app ⟨0,L[j].s+L[j].n-UR L[j].s t,UR L[j].s t⟩ _ _ _ (by omega) (by have:=tf t (L.take j);rw[Vp]at this;omega)) λv6 M6 n6 r6 w6 ⟨k6,D6,f6,g6,t6⟩=>?_;rw[<-hcF,<-hcB]at D6;have of6:=D6.a.one;have ob6:=D6.b.one;have qf6:=D6.a.bel;have qb6:=D6.b.bel;simp(disch:=omega)only[W_,eu,U5,to,AS,By,BY,IS,of6,ob6,qf6,qb6];exact gR (ih (j+1) (by omega) _ _ _ _ _ (by omega) (λk hk=>(f6 k hk).trans ((en _ _ _ _ (by omega)).trans (h5 k hk))) D6) λX e m n w ⟨p1,p2,p3,p4⟩=>⟨p1,by omega,p3,(by simp(disch:=omega)only[fB,eS,eR,and_self,g6,p4])⟩
   ·have hcF:=uO t (L.take j) L[j];rw[if_neg c2,SN,<-htk]at hcF;refine fF (mq L[j] hsm) λr7=>?_;simp(disch:=omega)only[W_,eu,U5,to,AS,By,BY,IS,t0,of,ob,qf,qb];have D6:=D5';rw[<-hcF,<-hcB]at D6;exact gR (ih (j+1) (by omega) _ _ _ _ _ (by omega) h5 D6) λX e m n w ⟨p1,p2,p3,p4⟩=>⟨p1,by omega,p3,(by simp(disch:=omega)only[fB,eS,eR,and_self,p4])⟩
theorem Duo.flat{n1:Nat}(h:Duo M n0 N v L u K)(hv:Am.flat v=true)(hu:Am.flat u=true):Duo M' n1 N' v L u K:=by
 have key:∀{v:AT} {L:List Ex},SlZ 3 M n0 N v L.length (exC L)->Am.flat v=true->SlZ 3 M' n1 N' v L.length (exC L)/\v=.slice none 0 0:=λh hv=>by
  rcases h with h|⟨_,_,b,rfl,_⟩
  ·exact⟨.inl h,h.2.2⟩
  ·cases hv
 obtain⟨a1,rfl⟩:=key h.a hv;exact⟨a1,(key h.b hu).1,λb hb h=>absurd (λl k e=>by cases e) h⟩
theorem te(hL:Exs m n lv L)(hs:∀x∈L,x.s+x.n<=65536)(ha:∀x∈L,x.a<=1000000000)(ht:t<=1000000)(hB:L.length<=100000):Rt (fL PG EL Y 351 [lv,.int .i64 (t:Int)] m n) λv m' n' w=>n<=n'/\(∀b,b<n->m' b=m b)/\(∀j,j<=n->SL w (bit j)=0)/\∃fv bv,v=.tuple #[fv,bv]/\Duo m' n n' fv (clF t L) bv (clB t L):=by
 refine gN (R:=λv m' n'=>∃fv bv,v=.tuple #[fv,bv]/\Duo m' n n' fv (clF t L) bv (clB t L)) e351 rfl ?_ λQ hQ=>?_
 ·rintro v m' n' hv ⟨fv,bv,rfl,D⟩;have hv:(Am.flat fv&&(Am.flat bv&&true))=true:=hv;rw[No,No]at hv;exact⟨fv,bv,rfl,D.flat hv.1 hv.2.1⟩
 simp only[Pu];have o:=hL.one;have l:=hL.len;simp(disch:=omega)only[W_,eu,U5,to,AS,By,BY,IS,o,l];refine ic (abt hL hs ha ht hB _ _ L.length 0 (by omega) _ _ _ m n (IN _) (λ_ _=>rfl) ⟨.inl ⟨rfl,rfl,rfl⟩,.inl ⟨rfl,rfl,rfl⟩,λb hb h=>absurd (λl k e=>by cases e) h⟩) λX e M' N' r w ⟨⟨fv,bv,z1,z2,hX,he,D⟩,p2,p3,p4⟩=>?_;subst hX he;have of:=D.a.one;have ob:=D.b.one;simp(disch:=omega)only[W_,eu,U5,to,AS,By,BY,IS,of,ob];exact hQ _ _ _ _ _ p2 p3 (by simp(disch:=omega)only[fB,eS,eR,and_self,p4]) ⟨fv,bv,rfl,D⟩
theorem RL.small(h:RL L){x:Ex}(hx:x∈L):x.small:=by have:=h x hx;unfold Ex.small;omega
theorem Exs.shown(h:Exs M N v L):∃a k ry,v=.slice a L.length k/\Am.shown M N 3 v=some (exC L,ry):=by
 rcases h with⟨rfl,rfl⟩|⟨b,k,rest,opn,wr,rfl,hb,hm⟩
 ·exact⟨_,_,_,rfl,rfl⟩
 ·refine⟨some ⟨b,0,none⟩,k,?_⟩;rcases Ug L.length with h0|h0
  ·rw[h0];obtain rfl:=SV.1 h0;exact⟨_,rfl,rfl⟩
  ·rw[jL h0,ig hb,hm,jr,UA,ja,kT];have:lS (exC L++rest) (L.length*3)=some (exC L):=by rw[jT,if_pos (by rw[IT,jA];omega),<-jA,XN]
   rw[this];exact⟨_,rfl,rfl⟩
theorem wo_L0(hK:Exs m n kv K)(hL:RL L)(hLs:lens L<=65536)(hKr:RL K)(hB:K.length<=100000)(e4 e6:AT):
  ∀(d j:Nat),j+d=K.length->∀(lv x2:AT) (M:FM) (N:Nat),n<=N->(∀b,b<n->M b=m b)->Exs M N lv (woF L (K.take j))->
  Gv (gD PG EL Y xE [lv,.int .i64 (j:Int),x2,.int .i64 (K.length:Int),e4,e6,kv] M N) λX e M' N' w=>(∃lv' z1 z2,X=.exit 0/\e=[lv',z1,z2,e4,e6,kv]/\Exs M' N' lv' (woF L K))/\N<=N'/\(∀b,b<n->M' b=m b)/\SL w (bit n)=0:=by
 have q:=hK.gO;have o:=hK.one;intro d
 induction d with
 |zero=>
  intro j hj lv x2 M N hN hf hO;refine gA (L:=xE) (b:=rU) rfl ?_;simp only[rU];obtain rfl:j=K.length:=by omega
  rw[UE]at hO;simp(disch:=omega)only[W_,eu,to];exact⟨⟨_,_,_,rfl,hO⟩,IN _,hf⟩
 |succ d ih=>
  intro j hj lv x2 M N hN hf hO;obtain⟨b,rest,opn,wr,hi,hb,hm⟩:=hK.at (by omega);have hmM:=(hf b hb).trans hm;obtain⟨c1,c2,c3,c4⟩:=jF (l:=K) (j:=j) rest (by omega);refine gA (L:=xE) (b:=rU) rfl ?_;simp only[rU];have ol:=hO.one;have ql:=hO.gO;have hx:=hKr K[j] (Tb _);have hsm:=hKr.small (Tb (l:=K) (n:=j) (by omega));obtain⟨hR,_⟩:=BC (K.take j) L hL;have hlen:=hR.kP;have hlen2:=Rm L (K.take j) hL;have hR2:=zD (t:=K[j].s) hR;have hl3:=tf K[j].s (woF L (K.take j));have hl4:=tf (K[j].s+K[j].n) (clF K[j].s (woF L (K.take j)));have hl5:=CH K[j].s (woF L (K.take j));have hsuc:woF L (K.take (j+1))=clB K[j].s (woF L (K.take j))++clF (K[j].s+K[j].n) (clF K[j].s (woF L (K.take j))):=by unfold woF;rw[Th (by omega),Yz];rfl
  simp(disch:=omega)only[W_,eu,to,hi j (by omega),hmM,c1,o,q,ol,ql];have t0:=eB M N (some (.cells [.int .i64 (K[j].a:Int),.int .i64 (K[j].n:Int),.int .i64 (K[j].s:Int)] 0 false true));have fx:∀k,k<N->(If M N (some (.cells [.int .i64 (K[j].a:Int),.int .i64 (K[j].n:Int),.int .i64 (K[j].s:Int)] 0 false true)):FM) k=M k:=λk hk=>gu;revert t0 fx;generalize (If M N (some (.cells [.int .i64 (K[j].a:Int),.int .i64 (K[j].n:Int),.int .i64 (K[j].s:Int)] 0 false true)):FM)=M0;intro t0 fx;refine fI (te (hO.frame (N':=N+1) (by omega) fx) (λx hx=>(hR x hx).2.1) (λx hx=>by rw[(hR x hx).2.2];omega) (by omega) (by omega)) λv1 M1 n1 r1 w1 ⟨k1,f1,g1,fv1,bv1,hv1,D1⟩=>?_;subst hv1;have u1:=(f1 N (by omega)).trans t0;have of1:=D1.a.one;have ob1:=D1.b.one;simp(disch:=omega)only[W_,eu,to,u1,of1,ob1];refine fF (mq K[j] hsm) λr2=>?_;simp(disch:=omega)only[W_,eu,to,of1,ob1];refine fI (te (SlZ.exs D1.a) (λx hx=>(hR2 x hx).2.1) (λx hx=>by rw[(hR2 x hx).2.2];omega) (by omega) (by omega)) λv2 M2 n2 r3 w3 ⟨k2,f2,g2,fv2,bv2,hv2,D2⟩=>?_;subst hv2;have of2:=D2.a.one;have ob2:=D2.b.one;obtain⟨a2,c2',ry2,rfl,hsh⟩:=(SlZ.exs D2.a).shown;simp(disch:=omega)only[W_,eu,to,of2,ob2,ob1];rw[hsh];refine fI (xA (D1.b.frame k2 λb _ hb=>f2 b hb) _ _ _ (by omega) (by omega)) λv5 M5 n5 r5 w5 ⟨k5,k6,S5,f5,g5,_,_⟩=>?_;rw[<-hsuc]at S5;have o5:=S5.one;simp(disch:=omega)only[W_,eu,to,o5];exact gR (ih (j+1) (by omega) _ _ _ _ (by omega) (λk hk=>(f5 k (by omega)).trans ((f2 k (by omega)).trans ((f1 k (by omega)).trans ((fx k (by omega)).trans (hf k hk))))) (SlZ.exs S5)) λX e m n w ⟨p1,p2,p3,p4⟩=>⟨p1,by omega,p3,(by simp(disch:=omega)only[fB,eS,eR,and_self,g1,g2,g5,p4])⟩
theorem BD(hv:Exs m n lv L)(hK:Exs m n kv K)(hL:RL L)(hLs:lens L<=65536)(hKr:RL K)(hB:K.length<=100000):Kp (fL PG EL Y 348 [lv,kv] m n) m n λv m' n'=>Exs m' n' v (woF L K):=by refine gN (R:=λv m' n'=>Exs m' n' v (woF L K)) e348 rfl (λ_ _ _ h1 h2=>h2.free h1) λQ hQ=>?_;simp only[Pw];have o:=hK.one;have l:=hK.len;have o1:=hv.one;simp(disch:=omega)only[W_,eu,to,o,l,o1];refine ic (wo_L0 hK hL hLs hKr hB _ _ K.length 0 (by omega) _ _ m n (IN _) (λ_ _=>rfl) hv) λX e M' N' r w ⟨⟨lv',z1,z2,hX,he,S⟩,p2,p3,p4⟩=>?_;subst hX he;have so:=S.one;simp(disch:=omega)only[W_,eu,to,so];exact hQ _ _ _ _ _ p2 p3 (by simp(disch:=omega)only[fB,eS,eR,and_self,p4]) S
theorem N5(R:List AT)(h:j<L.length)(h0:L[j].a=0):setCells (exC L++R) (j*3) [.int .i64 0]=some (exC L++R):=by
 have hl:j*3<(exC L++R).length:=by rw[IT,jA];omega
 rw[xh hl]
 congr 1
 have hg:=(jF R h).2.1;rw[kD,h0]at hg;apply List.ext_getElem?;intro i;rw[List.getElem?_set];split
 ·rename_i e;subst e;exact hg.symm
 ·rfl
theorem KD{b:Nat}{x:Option Blk}(h:M b=x):(If M b x:FM)=M:=by
 funext b'
 by_cases hb:b'=b
 ·subst hb;rw[eB,h]
 ·rw[en _ _ _ _ hb]
theorem MX{n:Nat}{sv:AT}(h0:∀x∈K,x.a=0)(hB:K.length<=100000)(e:List AT):
  ∀(d j:Nat),j+d=K.length->∀(x1:AT) (M:FM) (N:Nat),((K=[]/\sv=.slice none 0 0)\/∃b k rest,sv=.slice (some ⟨b,0,none⟩) K.length k/\n<=b/\b<N/\∃opn,M b=some (.cells (exC K++rest) 3 opn true))->
  Gv (gD PG EL Y xF (.int .i64 (j:Int)::x1::.int .i64 (K.length:Int)::sv::e) M N) λX e' M' N' w=>(∃z0 z1,X=.exit 2/\e'=z0::z1::sv::e)/\N'=N/\M'=M/\SL w (bit n)=0:=by
 intro d
 induction d with
 |zero=>intro j hj x1 M N hsv;refine gA (L:=xF) (b:=rV) rfl ?_;simp only[rV];simp(disch:=omega)only[W_,eu,to];exact⟨_,_,rfl⟩
 |succ d ih=>
  intro j hj x1 M N hsv;have hsv2:=hsv;rcases hsv with⟨rfl,_⟩|⟨b,k,rest,rfl,hbn,hN,opn,hm⟩
  ·simp at hj
  have hs:=N5 rest (show j<K.length by omega) (h0 _ (Tb _));refine gA (L:=xF) (b:=rV) rfl ?_;simp only[rV];simp(disch:=omega)only[W_,eu,to,hm,hs,KD hm];exact gR (ih (j+1) (by omega) _ _ _ hsv2) λX e m n w ⟨p1,p2,p3,p4⟩=>⟨p1,p2,p3,(by simp(disch:=omega)only[fB,eS,eR,and_self,p4])⟩
theorem MY{n bb:Nat}(hL:Exs m n lv L)(hS:S<=65536)(hbb:bb<n)(hm:m bb=some (.cells [.int .i64 (S:Int),rv] 0 false true))(hl:∀x∈L,1<=x.n/\x.s+x.n<=S/\x.a=0)(hB:L.length<=100000)(x0 x1 e5 e6 e8:AT):
  ∀(d j:Nat),j+d=L.length->∀(x3:AT) (M:FM) (N:Nat),n<=N->(∀b,b<n->M b=m b)->
  Gv (gD PG EL Y xG [x0,x1,.int .i64 (j:Int),x3,.int .i64 (L.length:Int),e5,e6,.pointer (some ⟨bb,0,none⟩),e8,lv] M N) λX e M' N' w=>(∃z0 z1 z2 z3,X=.exit 0/\e=[z0,z1,z2,z3,e5,e6,.pointer (some ⟨bb,0,none⟩),e8,lv])/\N<=N'/\(∀b,b<n->M' b=m b)/\SL w (bit n)=0:=by
 have q:=hL.gO;have o:=hL.one;intro d
 induction d with
 |zero=>intro j hj x3 M N hN hf;refine gA (L:=xG) (b:=rW) rfl ?_;simp only[rW];simp(disch:=omega)only[W_,eu,to];exact⟨⟨_,_,_,_,rfl⟩,IN _,hf⟩
 |succ d ih=>intro j hj x3 M N hN hf;obtain⟨b,rest,opn,wr,hi,hb,hm1⟩:=hL.at (by omega);have hmM:=(hf b hb).trans hm1;have hmb:=(hf bb hbb).trans hm;obtain⟨c1,c2,c3,c4⟩:=jF (l:=L) (j:=j) rest (by omega);have hx:=hl L[j] (Tb _);refine gA (L:=xG) (b:=rW) rfl ?_;simp only[rW];simp(disch:=omega)only[W_,eu,to,hi j (by omega),hmM,hmb,c1,o,q];exact gR (ih (j+1) (by omega) _ _ _ (by omega) (λk hk=>gJ (by omega) (hf k hk))) λX e m n w ⟨p1,p2,p3,p4⟩=>⟨p1,by omega,p3,(by simp(disch:=omega)only[fB,eS,eR,and_self,p4])⟩
theorem qM(hY:jf Y)(hL:Exs m n lv L)(hS:S<=65536)(hr:Am.one rv=true)(hl:∀x∈L,1<=x.n/\x.s+x.n<=S/\x.a=0)(hn:(sL L).Nodup)(hB:lens L<=65536):Kp (fL PG EL Y 347 [.agg #[.int .i64 (S:Int),rv],lv] m n) m n λv m' n'=>∃fv,v=.tuple #[fv,.bool true]/\Exs m' n' fv (rnF (iL L)):=by
 have hRL:RL L:=λx hx=>by have:=hl x hx;omega
 have hlen:=hRL.kP;refine gN (R:=λv m' n'=>∃fv,v=.tuple #[fv,.bool true]/\Exs m' n' fv (rnF (iL L))) e347 rfl ?_ λQ hQ=>?_
 ·rintro v m' n' hv ⟨fv,rfl,h⟩;have hv:(Am.flat fv&&(Am.flat (.bool true)&&true))=true:=hv;rw[No]at hv;refine⟨fv,rfl,?_⟩;rcases h with h|⟨b,k,rest,opn,wr,rfl,_⟩
  ·exact .inl h
  ·cases hv.1
 simp only[Px];have o:=hL.one;have l:=hL.len;simp(disch:=omega)only[W_,eu,to,o,l,hr,dW hr];have fr:∀b,b<n->(If m n (some (.cells [.int .i64 (S:Int),rv] 0 false true)):FM) b=m b:=λb hb=>gu;refine ic (MY (n:=n+1) (bb:=n) (hL.frame (by omega) fr) hS (by omega) (eB _ _ _) hl (by omega) _ _ _ _ _ L.length 0 (by omega) _ _ (n+1) (IN _) (λ_ _=>rfl)) λX e M1 n1 r1 w1 ⟨⟨z0,z1,z2,z3,hX,he⟩,p2,p3,p4⟩=>?_;subst hX he;have h5:=jE p4 (Tf n);simp(disch:=omega)only[W_,eu,to,o];refine fI (rM (hL.frame (N':=n1) (by omega) λb hb=>(p3 b (by omega)).trans (fr b hb)) (by omega)) λv2 M2 n2 r2 w2 ⟨k2,f2,g2,h2⟩=>?_;have l2:qR false v2=some (.int .i64 (L.length:Int)):=by rcases h2 with⟨rfl,rfl⟩|⟨b,k,rest,rfl,_⟩<;>rfl
 have E2:Exs M2 n2 v2 L:=by
  rcases h2 with⟨rfl,rfl⟩|⟨b,k,rest,rfl,hb1,hb2,opn,hm2⟩
  ·exact .inl ⟨rfl,rfl⟩
  ·exact .inr ⟨b,k,rest,opn,true,rfl,hb2,hm2⟩
 have o2:=E2.one;simp(disch:=omega)only[W_,eu,to,o2,l2];refine ic (MX (n:=n1) (λx hx=>(hl x hx).2.2) (by omega) _ L.length 0 (by omega) _ M2 n2 h2) λX e M3 n3 r3 w3 ⟨⟨y0,y1,hX,he⟩,q2,q3,q4⟩=>?_;subst hX he;subst q2 q3;have h6:=jE q4 (show n<=n1 by omega);simp(disch:=omega)only[W_,eu,to,o2];refine fI (sN hY E2 (λx hx=>by have:=hl x hx;unfold Ex.ok;omega) hn (by omega)) λv4 M4 n4 r4 w4 ⟨k4,f4,g4,R4⟩=>?_;have o4:=R4.one;have hsd:=yx (λx hx=>by have:=hl x hx;omega) hn;obtain⟨a1,a2⟩:=yK hsd;have hsz:lens (rnF (iL L))=lens L:=by rw[<-iY,a2,iY,Ko (ku L)]
 have hlr:(rnF (iL L)).length<=100000:=Tz (RL.kP (L:=rnF (iL L)) λx hx=>by have:=a1.1 x hx;omega) (by omega);simp(disch:=omega)only[W_,eu,to,o4,o];refine fF (jW R4 (by omega) (by omega)) λr5=>?_;simp(disch:=omega)only[W_,eu,to,o4,o];refine fF (jW (hL.frame (N':=n4) (by omega) λb hb=>(f4 b (by omega)).trans ((f2 b (by omega)).trans ((p3 b (by omega)).trans (fr b hb)))) (by omega) (by omega)) λr6=>?_;rw[hsz];simp(disch:=omega)only[W_,eu,to,o4];refine hQ _ _ _ _ _ (by omega) (λb hb=>(f4 b (by omega)).trans ((f2 b (by omega)).trans ((p3 b (by omega)).trans (fr b hb)))) ?_ ⟨v4,rfl,R4⟩;have g2':=g2 n (by omega);exact(by simp(disch:=omega)only[fB,eS,eR,and_self,h5,g2',h6,g4])
end Go.Am.CR
